/- What functions of this program compute, a part: see the main text. No conditions. -/
import Derived.Test.YtanpeaakmdffcaaGreatW04
import Derived.Laws.BytesString
set_option linter.all false
set_option maxRecDepth 100000
namespace Go.Am
open Go

/-- Where the parts of a struct lie. -/
def tplaces (P : Program) (t : TypeId) : Option (List (Nat × Nat)) :=
  (P.underlying t).bind fun | .struct fs => fs.toList.mapM (fun f => (P.info? f.type).map fun i => (f.offset, i.size)) | _ => none

def afill (pl : Nat → Option (Nat × Nat)) (cs : List AV) : List (Nat × AV) → Option (List AV)
  | [] => some cs
  | (i, v) :: rest => match pl i with
    | none => none
    | some (off, n) => if v.cells.length = n ∧ off + n ≤ cs.length then afill pl (cs.take off ++ v.cells ++ cs.drop (off + n)) rest else none

def abuild (P : Program) (t : TypeId) (parts : List (Nat × AV)) : Option AV :=
  match tzero P t with
  | some z => match tarr P t with
    | some (_, e) => match tsize P e with
      | some m => (afill (fun i => some (i * m, m)) z.cells parts).map .agg
      | none => none
    | none => match tplaces P t with
      | some ps => (afill (fun i => ps[i]?) z.cells parts).map .agg
      | none => none
  | none => none

/-- Cells hold what a list of abstract cells says. -/
def Holds (g : Gh) (cs : List AV) (vals : Array Value) : Prop := vals.size = cs.length ∧ ∀ i, i < cs.length → VR g (cs.getD i default) (vals.getD i undef)

theorem foldl_set (off : Nat) : ∀ (vs : List Value) (k : Nat) (cells : Array Value), off + k + vs.length ≤ cells.size →
    ((vs.zipIdx k).foldl (fun cs (c, j) => cs.setIfInBounds (off + j) c) cells).size = cells.size ∧
    ∀ i, ((vs.zipIdx k).foldl (fun cs (c, j) => cs.setIfInBounds (off + j) c) cells).getD i undef =
      if off + k ≤ i ∧ i < off + k + vs.length then vs.getD (i - (off + k)) undef else cells.getD i undef
  | [], k, cells, _ => ⟨rfl, fun i => by simp; omega⟩
  | v :: vs, k, cells, h => by
    simp only [List.length_cons] at h
    have ih := foldl_set off vs (k + 1) (cells.setIfInBounds (off + k) v) (by simp; omega)
    simp only [List.zipIdx_cons, List.foldl_cons]
    refine ⟨by rw [ih.1]; simp, fun i => ?_⟩
    rw [ih.2 i]
    by_cases h1 : off + k = i
    · subst h1
      rw [if_neg (by omega), if_pos (by simp)]
      have : off + k < cells.size := by omega
      simp [Array.getD_eq_getD_getElem?, this]
    · have e : (cells.setIfInBounds (off + k) v).getD i undef = cells.getD i undef := by
        rw [Array.getD_eq_getD_getElem?, Array.getD_eq_getD_getElem?, Array.getElem?_setIfInBounds_ne h1]
      rw [e]
      by_cases h2 : off + (k + 1) ≤ i ∧ i < off + (k + 1) + vs.length
      · rw [if_pos h2, if_pos (by simp; omega)]
        rw [show i - (off + k) = (i - (off + (k + 1))) + 1 by omega]
        simp [List.getD]
      · rw [if_neg h2, if_neg (by simp; omega)]

section
variable {P : Program} {g : Gh} {blk : Nat → Option Nat} {w : World}

theorem Holds.splice {cs : List AV} {cells : Array Value} {off : Nat} {v : AV} {x : Value} (h : Holds g cs cells) (hv : VR g v x) (hle : off + v.cells.length ≤ cs.length) :
    Holds g (cs.take off ++ v.cells ++ cs.drop (off + v.cells.length)) (x.cells.zipIdx.foldl (fun cs (c, j) => cs.setIfInBounds (off + j) c) cells) := by
  obtain ⟨e1, e2⟩ := hv.cells
  have hf := foldl_set off x.cells.toList 0 cells (by simp [e1]; have := h.1; omega)
  have hz : x.cells.zipIdx.foldl (fun cs (c, j) => cs.setIfInBounds (off + j) c) cells = (x.cells.toList.zipIdx 0).foldl (fun cs (c, j) => cs.setIfInBounds (off + j) c) cells := by
    rw [← Array.foldl_toList, Array.toList_zipIdx]
  rw [hz]
  refine ⟨by rw [hf.1, h.1]; simp; omega, fun i hi => ?_⟩
  rw [hf.2 i]
  simp only [List.length_append, List.length_take, List.length_drop] at hi
  by_cases h1 : off + 0 ≤ i ∧ i < off + 0 + x.cells.toList.length
  · rw [if_pos h1]
    simp only [Array.length_toList] at h1
    have e : (List.take off cs ++ v.cells ++ List.drop (off + v.cells.length) cs).getD i default = v.cells.getD (i - off) default := by
      simp only [List.getD, List.append_assoc]
      rw [List.getElem?_append_right (by simp; omega), List.getElem?_append_left (by simp; omega)]
      simp [Nat.min_eq_left (show off ≤ cs.length by omega)]
    rw [e]
    have := e2 (i - off) (by omega)
    simpa [Array.getD_eq_getD_getElem?, List.getD] using this
  · rw [if_neg h1]
    simp only [Array.length_toList] at h1
    have e : (List.take off cs ++ v.cells ++ List.drop (off + v.cells.length) cs).getD i default = cs.getD i default := by
      by_cases hlt : i < off
      · simp only [List.getD, List.append_assoc]
        rw [List.getElem?_append_left (by simp; omega), List.getElem?_take_of_lt hlt]
      · simp only [List.getD]
        rw [List.getElem?_append_right (by simp; omega)]
        simp only [List.getElem?_drop, List.length_append, List.length_take, Nat.min_eq_left (show off ≤ cs.length by omega)]
        congr 2
        omega
    rw [e]
    exact h.2 i (by omega)

theorem afill_ok {pl : Nat → Option (Nat × Nat)} : ∀ {parts : List (Nat × AV)} {vs : List (Nat × Value)} {cs cs' : List AV} {cells : Array Value}, afill pl cs parts = some cs' → Holds g cs cells →
    vs.length = parts.length → (∀ i, i < parts.length → (vs.getD i (0, undef)).1 = (parts.getD i default).1 ∧ VR g (parts.getD i default).2 (vs.getD i (0, undef)).2) →
    ∃ cells', Instr.fill pl cells vs = some cells' ∧ Holds g cs' cells'
  | [], [], cs, cs', cells, h, hh, _, _ => by cases h; exact ⟨cells, rfl, hh⟩
  | (i, v) :: parts, [], cs, cs', cells, h, hh, hl, _ => by simp at hl
  | [], _ :: _, cs, cs', cells, h, hh, hl, _ => by simp at hl
  | (i, v) :: parts, (i', x) :: vs, cs, cs', cells, h, hh, hl, hv => by
    obtain ⟨e1, e2⟩ := hv 0 (by simp)
    have e1' : i' = i := e1
    have e2' : VR g v x := e2
    subst e1'
    simp only [afill] at h
    split at h
    · cases h
    · rename_i off n hp
      split at h
      · rename_i hc
        obtain ⟨rfl, hle⟩ := hc
        obtain ⟨cells', f1, f2⟩ := afill_ok h (hh.splice e2' hle) (by simpa using hl) (fun i hi => by simpa using hv (i + 1) (by simpa using hi))
        refine ⟨cells', ?_, f2⟩
        have hsz := (e2'.cells).1
        have hs2 := hh.1
        rw [Instr.fill, hp]
        simp only
        rw [if_neg (by simp; omega)]
        exact f1
      · cases h

theorem tzero_ok {t : TypeId} {z : AV} (h : tzero P t = some z) : ∃ i zv, P.info? t = some i ∧ i.zero = some zv ∧ VR g z zv := by
  simp only [tzero, Option.bind_eq_some_iff] at h
  obtain ⟨i, h1, zv, h2, h3⟩ := h
  exact ⟨i, zv, h1, h2, ofV_ok h3⟩

theorem abuild_ok {t : TypeId} {parts : List (Nat × AV)} {vs : Array (Nat × Value)} {v : AV} (h : abuild P t parts = some v) (hl : vs.size = parts.length)
    (hv : ∀ i, i < parts.length → (vs.toList.getD i (0, undef)).1 = (parts.getD i default).1 ∧ VR g (parts.getD i default).2 (vs.toList.getD i (0, undef)).2) :
    ∃ u, (Instr.build t vs).run P w = .ok u w ∧ VR g v u := by
  unfold abuild at h
  split at h
  · rename_i z hz
    obtain ⟨it, zv, h1, h2, h3⟩ := tzero_ok (g := g) hz
    split at h
    · rename_i n e ht
      split at h
      · rename_i m hm
        simp only [Option.map_eq_some_iff] at h
        obtain ⟨cs, hcs, rfl⟩ := h
        obtain ⟨cells, f1, f2⟩ := afill_ok (g := g) (vs := vs.toList) hcs h3.cells (by simpa using hl) hv
        simp only [tsize, Option.map_eq_some_iff] at hm
        obtain ⟨ie, hie, rfl⟩ := hm
        exact ⟨.agg cells, run_build w t vs cells (by simp [Program.built, h1, tarr_und ht, h2, hie, f1]), .agg _ _ f2.1 f2.2⟩
      · cases h
    · split at h
      · rename_i ps hps
        simp only [Option.map_eq_some_iff] at h
        obtain ⟨cs, hcs, rfl⟩ := h
        obtain ⟨cells, f1, f2⟩ := afill_ok (g := g) (vs := vs.toList) hcs h3.cells (by simpa using hl) hv
        simp only [tplaces, Option.bind_eq_some_iff] at hps
        obtain ⟨d, hd, hps⟩ := hps
        cases d <;> simp only [reduceCtorEq] at hps
        refine ⟨.agg cells, run_build w t vs cells ?_, .agg _ _ f2.1 f2.2⟩
        simp only [Program.built, h1, hd, h2, hps]
        simpa using f1
      · cases h
  · cases h

def AV.num : AV → Int
  | .int _ n => n
  | _ => 0

theorem abytes_ok {es : List AV} {l : List UInt8} (h : abytes es = some l) : (∀ i, i < es.length → ∃ n, es.getD i default = .int .u8 n ∧ l.getD i 0 = UInt8.ofNat n.toNat) ∧ l.length = es.length := by
  induction es generalizing l with
  | nil => cases h; exact ⟨fun i hi => by simp at hi, rfl⟩
  | cons a es ih =>
    cases a with
    | int k n =>
      cases k <;> first | (simp [abytes] at h; done) | skip
      simp only [abytes] at h
      split at h
      · rename_i r hr
        cases h
        obtain ⟨i1, i2⟩ := ih hr
        refine ⟨fun i hi => ?_, by simp [i2]⟩
        cases i with
        | zero => exact ⟨n, rfl, rfl⟩
        | succ i => simpa using i1 i (by simpa using hi)
      · cases h
    | _ => simp [abytes] at h

theorem foldl_push (ns : List Int) : ∀ s : ByteArray, ns.foldl (fun r n => r.push (UInt8.ofNat n.toNat)) s = ⟨(s.data.toList ++ ns.map fun n => UInt8.ofNat n.toNat).toArray⟩ := by
  induction ns with
  | nil => intro s; obtain ⟨d⟩ := s; simp
  | cons n ns ih => intro s; simp only [List.foldl_cons, ih]; simp [ByteArray.push]

theorem aconv_ok {B : Base} {E : Env} {L : Boxes} {σ : Sh} {tmps : Array Value} (hr : Rel B g blk E L σ tmps w) {s d : TypeId} {a v : AV} {x : Value} (ha : SR g blk a x) (h : aconv P s d a = some v) : ∃ u, (convert s d x).run P w = .ok u w ∧ VR g v u := by
  unfold aconv at h
  split at h
  · split at h
    · rename_i k hk
      split at h
      · rename_i hs
        cases h
        cases ha
        obtain ⟨ds, hds⟩ := Option.isSome_iff_exists.1 hs
        refine ⟨_, ?_, .int _ _⟩
        have := run_convert_int (P := P) (w := w) s d k
        simp [convert, run_underlying hds, run_underlying (tint_und hk), Conv.intToInt]
      · cases h
    · cases h
  · split at h
    · rename_i hc
      simp only [Bool.and_eq_true] at hc
      cases h
      cases ha
      obtain ⟨ds, hds⟩ := Option.isSome_iff_exists.1 hc.2
      exact ⟨_, by simp [convert, run_underlying hds, run_underlying (tstr_und hc.1)], .str _⟩
    · cases h
  · rename_i es tag
    split at h
    · rename_i e he
      split at h
      · rename_i hc
        simp only [Bool.and_eq_true, beq_iff_eq] at hc
        simp only [Option.map_eq_some_iff] at h
        obtain ⟨l, hl, rfl⟩ := h
        obtain ⟨b1, b2⟩ := abytes_ok hl
        have hconv : ∀ A n c, (convert s d (.slice A n c)).run P w = (Conv.bytesToString (.slice A n c)).run P w := fun A n c => run_convert_bytes_string w s d e A n c (telem_und he) (tint_und hc.2) (tstr_und hc.1)
        cases ha with
        | nils =>
          have : l = [] := List.eq_nil_of_length_eq_zero b2
          subst this
          exact ⟨_, by rw [hconv]; simp [Conv.bytesToString]; rfl, .str []⟩
        | list sz _ _ b off cap c hcv hle hcap hmax htag hsz hv =>
          obtain ⟨vals, T, fr, hw, hp⟩ := hr.sh.vecs b c hcv
          have key : ∀ i, i < es.length → ∃ n, es.getD i default = .int .u8 n ∧ l.getD i 0 = UInt8.ofNat n.toNat ∧ w.cell? ((⟨b, off, none⟩ : Addr).add i) = some (.int .u8 n) := fun i hi => by
            obtain ⟨n, n1, n2⟩ := b1 i hi
            have hs1 : sz = 1 := by
              have := hsz i hi
              rw [n1] at this
              simpa [AV.cells] using this.symm
            subst hs1
            have := hv i 0 hi (by omega)
            rw [n1] at this
            simp only [AV.cells, Nat.mul_one, Nat.add_zero] at this
            have h2 : VR g (.int .u8 n) (c.getD (off + i) undef) := by simpa using this
            cases hcell : c.getD (off + i) undef with
            | int k m =>
              rw [hcell] at h2
              cases h2
              refine ⟨n, n1, n2, ?_⟩
              rw [Addr.add_lit, cell_of_row w b _ vals T fr hw]
              have hlt : off + i < c.length := by omega
              have h3 := getD_of_prefix hp undef hlt
              rw [hcell] at h3
              have hlt2 := Nat.lt_of_lt_of_le hlt hp.length_le
              rw [getD_eq _ _ _ hlt2] at h3
              simp only [Array.length_toList] at hlt2
              simpa [hlt2] using h3
            | _ => rw [hcell] at h2; cases h2
          have hcells := run_loadCells_list (P := P) w ⟨b, off, none⟩ ((List.range es.length).map fun i => w.cell? ((⟨b, off, none⟩ : Addr).add i) |>.getD undef) (fun j v hj => by
            have hj' : j < es.length := by simpa using (List.getElem?_eq_some_iff.1 hj).1
            obtain ⟨n, _, _, n3⟩ := key j hj'
            simp [hj', n3] at hj
            rw [n3, hj])
          have hns : ((List.range es.length).map fun i => w.cell? ((⟨b, off, none⟩ : Addr).add i) |>.getD undef) = ((List.range es.length).map fun i => (es.getD i default).num).map (Value.int .u8) := by
            rw [List.map_map]
            refine List.map_congr_left fun i hi => ?_
            obtain ⟨n, n1, _, n3⟩ := key i (List.mem_range.1 hi)
            simp only [Function.comp, n3, n1, AV.num, Option.getD_some]
          rw [hns] at hcells
          simp only [List.length_map, List.length_range] at hcells
          refine ⟨_, by rw [hconv]; exact run_bytesToString w _ _ cap _ hcells, ?_⟩
          rw [foldl_push]
          have : l = ([] ++ ((List.range es.length).map fun i => (es.getD i default).num).map fun n => UInt8.ofNat n.toNat) := by
            apply List.ext_getElem
            · simp [b2]
            · intro i h1 h2
              obtain ⟨n, n1, n2, _⟩ := key i (by omega)
              rw [← getD_eq l i 0 h1, n2]
              simp only [List.nil_append, List.getElem_map, List.getElem_range, n1, AV.num]
          rw [this]
          exact .str _
      · cases h
    · cases h
  · cases h

end
end Go.Am
namespace Go.Am
open Go

def lookp (ρ : Operand → Option AV) : List (Nat × Operand) → Option (List (Nat × AV))
  | [] => some []
  | (i, x) :: xs => match ρ x, lookp ρ xs with
    | some a, some l => some ((i, a) :: l)
    | _, _ => none

/-- What a quiet operation makes. -/
noncomputable def aq (P : Program) (op : Go.Op) (ρ : Operand → Option AV) (L : Boxes) (σ : Sh) : Option AV :=
  match op with
  | .build t parts => match lookp ρ parts.toList with
    | some l => if l.all (fun x => x.2.free) then abuild P t l else none
    | none => none
  | op => apure P op ρ L σ

section
variable {P : Program} {B : Base} {g : Gh} {blk : Nat → Option Nat} {E : Env} {L : Boxes} {σ : Sh} {tmps : Array Value} {w : World}

theorem looks_ok (h : Rel B g blk E L σ tmps w) : ∀ {xs : List Operand} {l : List AV}, looks (look E) xs = some l → xs.length = l.length ∧ ∀ i, i < l.length → SR g blk (l.getD i default) ((xs.map (Act.eval ⟨tmps, []⟩)).getD i undef)
  | [], l, hl => by cases hl; exact ⟨rfl, fun i hi => by simp at hi⟩
  | x :: xs, l, hl => by
    simp only [looks] at hl
    split at hl
    · rename_i a as h1 h2
      cases hl
      obtain ⟨e1, e2⟩ := looks_ok h h2
      refine ⟨by simp [e1], fun i hi => ?_⟩
      cases i with
      | zero => exact look_ok h h1
      | succ i => simpa using e2 i (by simpa using hi)
    · cases hl

theorem lookp_ok (h : Rel B g blk E L σ tmps w) : ∀ {xs : List (Nat × Operand)} {l : List (Nat × AV)}, lookp (look E) xs = some l → xs.length = l.length ∧
    ∀ i, i < l.length → ((xs.map fun x => (x.1, Act.eval ⟨tmps, []⟩ x.2)).getD i (0, undef)).1 = (l.getD i default).1 ∧ SR g blk (l.getD i default).2 ((xs.map fun x => (x.1, Act.eval ⟨tmps, []⟩ x.2)).getD i (0, undef)).2
  | [], l, hl => by cases hl; exact ⟨rfl, fun i hi => by simp at hi⟩
  | (k, x) :: xs, l, hl => by
    simp only [lookp] at hl
    split at hl
    · rename_i a as h1 h2
      cases hl
      obtain ⟨e1, e2⟩ := lookp_ok h h2
      refine ⟨by simp [e1], fun i hi => ?_⟩
      cases i with
      | zero => exact ⟨rfl, look_ok h h1⟩
      | succ i => simpa using e2 i (by simpa using hi)
    · cases hl

theorem opt_look (h : Rel B g blk E L σ tmps w) {x : Option Operand} {a : Option AV} (ha : (x.elim (some none) fun x => (look E x).map some) = some a) :
    (∀ v, a = some v → ∃ u, x.map (Act.eval ⟨tmps, []⟩) = some u ∧ SR g blk v u) ∧ (a = none → x.map (Act.eval ⟨tmps, []⟩) = none) := by
  cases x with
  | none =>
    cases ha
    exact ⟨fun v hv => (by cases hv), fun _ => rfl⟩
  | some x =>
    simp only [Option.elim_some, Option.map_eq_some_iff] at ha
    obtain ⟨v, h1, rfl⟩ := ha
    refine ⟨fun v' hv => ?_, fun hv => ?_⟩
    · cases hv; exact ⟨_, rfl, look_ok h h1⟩
    · cases hv

theorem apure_ok (h : Rel B g blk E L σ tmps w) {o : Oper} {v : AV} (hv : apure P o.op (look E) L σ = some v) :
    ∃ u, (execOp (Act.eval ⟨tmps, []⟩) o).run P w = .ok (.value u) w ∧ SR g blk v u := by
  unfold apure at hv
  unfold execOp
  split at hv
  · rename_i x hx; rw [hx]; exact ⟨_, rfl, look_ok h hv⟩
  · rename_i x hx; rw [hx]; exact ⟨_, rfl, look_ok h hv⟩
  · rename_i c a b hx
    rw [hx]
    split at hv
    · rename_i hc
      have := look_ok h hc
      generalize hg : Act.eval ⟨tmps, []⟩ c = u at this
      cases this
      exact ⟨_, by simp only [hg]; rfl, look_ok h hv⟩
    · rename_i hc
      have := look_ok h hc
      generalize hg : Act.eval ⟨tmps, []⟩ c = u at this
      cases this
      exact ⟨_, by simp only [hg]; rfl, look_ok h hv⟩
    · cases hv
  · rename_i t a hx
    rw [hx]
    split at hv
    · rename_i a' ha
      split at hv
      · rename_i cs hcs
        obtain ⟨b, off, e1, e2⟩ := acells_ok h hcs (look_ok h ha)
        obtain ⟨u, e3, e4⟩ := loadVar_ok (P := P) (w := w) e2 hv
        exact ⟨u, by simp [e1, Instr.loadAt, Instr.sureAddr, e3], e4.sr⟩
      · cases hv
    · cases hv
  · rename_i x hx
    rw [hx]
    split at hv
    · rename_i a ha
      split at hv
      · rename_i hr
        cases hv
        have hs := look_ok h ha
        generalize hg : Act.eval ⟨tmps, []⟩ x = u at hs
        cases v <;> simp [AV.isRef] at hr
        · have h2 := hs
          cases h2
          exact ⟨_, by simp only [hg]; rfl, hs⟩
        · obtain ⟨b, hb, rfl⟩ := hs
          exact ⟨_, by simp only [hg]; rfl, b, hb, rfl⟩
        · have h2 := hs
          cases h2
          exact ⟨_, by simp only [hg]; rfl, hs⟩
      · cases hv
    · cases hv
  · rename_i op t x y ty hx
    rw [hx]
    split at hv
    · rename_i a b ha hb
      obtain ⟨u, e1, e2⟩ := abin_ok (w := w) (x := x) (y := y) (look_ok h ha) (look_ok h hb) hv
      exact ⟨u, by simp only [Sem.run_bind, e1, Result.andThen_ok, Sem.run_pure], e2.sr⟩
    · cases hv
  · rename_i op t x hx
    rw [hx]
    split at hv
    · rename_i a ha
      obtain ⟨u, e1, e2⟩ := aunop_ok (P := P) (w := w) (look_ok h ha) hv
      exact ⟨u, by simp [e1], e2.sr⟩
    · cases hv
  · rename_i s d x hx
    rw [hx]
    split at hv
    · rename_i a ha
      obtain ⟨u, e1, e2⟩ := aconv_ok (P := P) h (look_ok h ha) hv
      exact ⟨u, by simp [e1], e2.sr⟩
    · cases hv
  · rename_i fn first cap hx
    rw [hx]
    split at hv
    · rename_i hf
      split at hv
      · rename_i l hl
        split at hv
        · rename_i hall
          cases hv
          obtain ⟨e1, e2⟩ := looks_ok h hl
          have hf0 : first = #[] := by simpa using hf
          subst hf0
          refine ⟨_, by simp [Instr.makeFunc]; rfl, VR.sr (.func _ _ _ (by simpa using e1) fun i hi => ?_)⟩
          have h3 := (e2 i hi).vr (by
            rw [getD_eq _ _ _ hi]
            exact List.all_eq_true.1 hall _ (List.getElem_mem hi))
          have hi2 : i < cap.size := by have : cap.toList.length = l.length := e1; simp at this; omega
          simpa [Array.getD_eq_getD_getElem?, List.getD, hi2] using h3
        · cases hv
      · cases hv
    · cases hv
  · rename_i t x lo hi mx hx
    rw [hx]
    split at hv
    · rename_i a ha
      split at hv
      · rename_i lo' hi' mx' h1 h2 h3
        obtain ⟨u, e1, e2⟩ := aslice_ok (P := P) (w := w) (look_ok h ha) (opt_look h h1) (opt_look h h2) (opt_look h h3) hv
        exact ⟨u, by simp [e1], e2.sr⟩
      · cases hv
    · cases hv
  · rename_i t x f hx
    rw [hx]
    split at hv
    · rename_i a ha
      obtain ⟨u, e1, e2⟩ := afieldAddr_ok (P := P) (w := w) (look_ok h ha) hv
      exact ⟨u, by simp [e1], e2⟩
    · cases hv
  · rename_i t x f hx
    rw [hx]
    split at hv
    · rename_i a ha
      obtain ⟨u, e1, e2⟩ := afield_ok (P := P) (w := w) (look_ok h ha) hv
      exact ⟨u, by simp [e1], e2.sr⟩
    · cases hv
  · rename_i t x i hx
    rw [hx]
    split at hv
    · rename_i a b ha hb
      obtain ⟨u, e1, e2⟩ := aindexAddr_ok (P := P) (w := w) (look_ok h ha) (look_ok h hb) hv
      exact ⟨u, by simp [e1], e2⟩
    · cases hv
  · rename_i t x i hx
    rw [hx]
    split at hv
    · rename_i a b ha hb
      obtain ⟨u, e1, e2⟩ := aindex_ok (P := P) (w := w) (look_ok h ha) (look_ok h hb) hv
      exact ⟨u, by simp [e1], e2.sr⟩
    · cases hv
  · rename_i x i hx
    rw [hx]
    split at hv
    · rename_i vs ha
      have hs := look_ok h ha
      generalize hg : Act.eval ⟨tmps, []⟩ x = u at hs
      cases hs with
      | tuple _ ws hl hw =>
        have hi := (List.getElem?_eq_some_iff.1 hv).1
        have h3 := hw i hi
        have hi2 : i < ws.size := by omega
        refine ⟨ws.getD i undef, by simp [hg, Instr.extract, hi2], VR.sr ?_⟩
        simpa [List.getD, hv] using h3
    · cases hv
  · rename_i b args tys hx
    rw [hx]
    split at hv
    · rename_i x t more hargs htys
      obtain ⟨args⟩ := args
      obtain ⟨tys⟩ := tys
      simp only at hargs htys
      subst hargs
      subst htys
      split at hv
      · rename_i a ha
        obtain ⟨u, e1, e2⟩ := alen_ok (P := P) (w := w) (look_ok h ha) hv o.type more
        exact ⟨u, by simp [resolve, invoke, builtin, e1], e2.sr⟩
      · cases hv
    · rename_i x y tys' hargs
      obtain ⟨args⟩ := args
      simp only at hargs
      subst hargs
      split at hv
      · rename_i a b ha hb
        obtain ⟨u, e1, e2⟩ := amax_ok (P := P) (w := w) (look_ok h ha) (look_ok h hb) hv tys o.type
        exact ⟨u, by simp [resolve, invoke, builtin, e1], e2.sr⟩
      · cases hv
    · rename_i x y tys' hargs
      obtain ⟨args⟩ := args
      simp only at hargs
      subst hargs
      split at hv
      · rename_i a b ha hb
        obtain ⟨u, e1, e2⟩ := amin_ok (P := P) (w := w) (look_ok h ha) (look_ok h hb) hv tys o.type
        exact ⟨u, by simp [resolve, invoke, builtin, e1], e2.sr⟩
      · cases hv
    · cases hv
  · cases hv

theorem aq_ok (h : Rel B g blk E L σ tmps w) {o : Oper} {v : AV} (hv : aq P o.op (look E) L σ = some v) :
    ∃ u, (execOp (Act.eval ⟨tmps, []⟩) o).run P w = .ok (.value u) w ∧ SR g blk v u := by
  unfold aq at hv
  split at hv
  · rename_i t parts hx
    split at hv
    · rename_i l hl
      split at hv
      · rename_i hall
        obtain ⟨e1, e2⟩ := lookp_ok h hl
        obtain ⟨u, f1, f2⟩ := abuild_ok (P := P) (g := g) (w := w) (vs := parts.map fun (i, x) => (i, Act.eval ⟨tmps, []⟩ x)) hv (by simpa using e1) (fun i hi => by
          have := e2 i hi
          rw [Array.toList_map]
          refine ⟨this.1, this.2.vr ?_⟩
          rw [getD_eq _ _ _ hi]
          exact List.all_eq_true.1 hall _ (List.getElem_mem hi))
        refine ⟨u, ?_, f2.sr⟩
        unfold execOp
        rw [hx]
        simp only [Sem.run_bind, f1, Result.andThen_ok, Sem.run_pure]
      · cases hv
    · cases hv
  · exact apure_ok h hv

end
end Go.Am
namespace Go.Am
open Go

def noRef (k : Nat) : Env → Bool
  | [] => true
  | (_, .lref k' _) :: E => k' != k && noRef k E
  | _ :: E => noRef k E

theorem noRef_ok {k : Nat} : ∀ {E : Env}, noRef k E = true → ∀ s off, E.get s ≠ some (.lref k off)
  | [], _, s, off => by simp [Env.get]
  | (s', v) :: E, h, s, off => by
    have ht : noRef k E = true := by
      cases v <;> first | exact h | (simp [noRef] at h; exact h.2)
    simp only [Env.get]
    split
    · intro he
      cases he
      simp [noRef] at h
    · exact noRef_ok ht s off

/-- What an operation that is not quiet may turn of the ghost. -/
structure Moves (g g' : Gh) (σ σ' : Sh) (num : Nat) : Prop where
  le : g.le g'
  nt : g'.nt = g.nt
  sh : ∀ i, i ≠ num → g'.sh i = g.sh i
  tok : ∀ i, i ≠ num → g'.tok i = g.tok i
  live : ∀ i, i ≠ num → i ∈ σ'.live → i ∈ σ.live
  ob : ∀ i, i ≠ num → σ.ob i = none → σ'.ob i = none

theorem Moves.refl (g : Gh) (σ : Sh) (num : Nat) : Moves g g σ σ num := ⟨Gh.le.refl g, rfl, fun _ _ => rfl, fun _ _ => rfl, fun _ _ h => h, fun _ _ h => h⟩

/-- The cells of a list's elements, one behind the other. -/
def Row (g : Gh) (m : Nat) (es : List AV) (l : List Value) : Prop :=
  l.length = es.length * m ∧ (∀ i, i < es.length → ((es.getD i default).cells).length = m) ∧ ∀ i j, i < es.length → j < m → VR g ((es.getD i default).cells.getD j default) (l.getD (i * m + j) undef)

theorem Row.mono {g g' : Gh} (hg : g.le g') {m : Nat} {es : List AV} {l : List Value} (h : Row g m es l) : Row g' m es l := ⟨h.1, h.2.1, fun i j hi hj => (h.2.2 i j hi hj).mono hg⟩

theorem Row.append {g : Gh} {m : Nat} {es es' : List AV} {l l' : List Value} (h : Row g m es l) (h' : Row g m es' l') : Row g m (es ++ es') (l ++ l') := by
  have key : ∀ i, i < es.length → (es ++ es').getD i default = es.getD i default := fun i hi => by simp [List.getD, List.getElem?_append_left hi]
  have key' : ∀ i, ¬ i < es.length → (es ++ es').getD i default = es'.getD (i - es.length) default := fun i hi => by simp [List.getD, List.getElem?_append_right (Nat.le_of_not_lt hi)]
  refine ⟨by simp [h.1, h'.1, Nat.add_mul], fun i hi => ?_, fun i j hi hj => ?_⟩
  · by_cases hlt : i < es.length
    · rw [key i hlt]; exact h.2.1 i hlt
    · rw [key' i hlt]; exact h'.2.1 _ (by simp at hi; omega)
  · by_cases hlt : i < es.length
    · rw [key i hlt]
      have : (i + 1) * m ≤ es.length * m := Nat.mul_le_mul_right _ hlt
      rw [Nat.add_mul, Nat.one_mul] at this
      have e : (l ++ l').getD (i * m + j) undef = l.getD (i * m + j) undef := by
        simp only [List.getD]
        rw [List.getElem?_append_left (by rw [h.1]; omega)]
      rw [e]
      exact h.2.2 i j hlt hj
    · rw [key' i hlt]
      have hge : es.length * m ≤ i * m := Nat.mul_le_mul_right _ (Nat.le_of_not_lt hlt)
      have e : (l ++ l').getD (i * m + j) undef = l'.getD ((i - es.length) * m + j) undef := by
        simp only [List.getD]
        rw [List.getElem?_append_right (by rw [h.1]; omega), h.1]
        congr 2
        rw [Nat.sub_mul]
        omega
      rw [e]
      exact h'.2.2 _ j (by simp at hi; omega) hj

/-- What a list's value is, and its cells. -/
theorem VR.row {g : Gh} {m : Nat} {es : List AV} {tag : Tag} {v : Value} (h : VR g (.list es tag) v) (hs : sized m es = true) :
    (v = .slice none 0 0 ∧ es = []) ∨
    ∃ b off cap c sz, v = .slice (some ⟨b, off, none⟩) es.length cap ∧ g.vec b = some c ∧ off + es.length * sz ≤ c.length ∧ es.length ≤ cap ∧ cap ≤ maxLen ∧ tag.fits g b off sz es.length cap ∧
      Row g m es ((c.drop off).take (es.length * m)) ∧ (es ≠ [] → sz = m) := by
  cases h with
  | nils => exact .inl ⟨rfl, rfl⟩
  | list sz _ _ b off cap c hc hle hcap hmax htag hsz hv =>
    refine .inr ⟨b, off, cap, c, sz, rfl, hc, hle, hcap, hmax, htag, ?_⟩
    by_cases h0 : es = []
    · subst h0
      exact ⟨⟨by simp, fun i hi => by simp at hi, fun i j hi => by simp at hi⟩, fun h => absurd rfl h⟩
    · have hl : 0 < es.length := List.length_pos_iff.2 h0
      have hm : sz = m := by
        have h1 := hsz 0 hl
        rw [getD_eq _ _ _ hl] at h1
        simp only [sized, List.all_eq_true, Bool.and_eq_true, beq_iff_eq] at hs
        rw [← h1]
        exact (hs _ (List.getElem_mem hl)).1
      subst hm
      refine ⟨⟨by simp; omega, hsz, fun i j hi hj => ?_⟩, fun _ => rfl⟩
      have : (i + 1) * sz ≤ es.length * sz := Nat.mul_le_mul_right _ hi
      rw [Nat.add_mul, Nat.one_mul] at this
      have h2 := hv i j hi hj
      have e : ((c.drop off).take (es.length * sz)).getD (i * sz + j) undef = c.getD (off + i * sz + j) undef := by
        simp only [List.getD]
        rw [List.getElem?_take_of_lt (by omega), List.getElem?_drop, Nat.add_assoc]
      rw [e]
      exact h2

/-- A list's value over a row in a block. -/
theorem Row.vr {g : Gh} {m : Nat} {es : List AV} {l : List Value} (h : Row g m es l) {tag : Tag} {b off cap : Nat} {c : List Value} (hc : g.vec b = some c) (hl : ∃ t, c.drop off = l ++ t) (ho : off ≤ c.length)
    (hcap : es.length ≤ cap) (hmax : cap ≤ maxLen) (htag : tag.fits g b off m es.length cap) : VR g (.list es tag) (.slice (some ⟨b, off, none⟩) es.length cap) := by
  obtain ⟨t, ht⟩ := hl
  have hlen := congrArg List.length ht
  simp only [List.length_drop, List.length_append, h.1] at hlen
  refine .list m es tag b off cap c hc (by omega) hcap hmax htag h.2.1 fun i j hi hj => ?_
  have : (i + 1) * m ≤ es.length * m := Nat.mul_le_mul_right _ hi
  rw [Nat.add_mul, Nat.one_mul] at this
  have e : c.getD (off + i * m + j) undef = l.getD (i * m + j) undef := by
    have h1 : c.getD (off + i * m + j) undef = (c.drop off).getD (i * m + j) undef := by simp [List.getD, Nat.add_assoc]
    rw [h1, ht]
    simp only [List.getD]
    rw [List.getElem?_append_left (by rw [h.1]; omega)]
  rw [e]
  exact h.2.2 i j hi hj

theorem Row.one {g : Gh} {m : Nat} {es : List AV} {l : List Value} (h : Row g m es l) (hs : sized m es = true) : ∀ u ∈ l, u.oneCell' = true := by
  intro u hu
  obtain ⟨k, hk, rfl⟩ := List.mem_iff_getElem.1 hu
  have hk' : k < es.length * m := by rw [← h.1]; exact hk
  have hm : 0 < m := by
    rcases Nat.eq_zero_or_pos m with h0 | h0
    · subst h0; simp at hk'
    · exact h0
  have hi : k / m < es.length := Nat.div_lt_of_lt_mul (by rw [Nat.mul_comm]; exact hk')
  have hj : k % m < m := Nat.mod_lt _ hm
  have := h.2.2 (k / m) (k % m) hi hj
  rw [Nat.mul_comm, Nat.div_add_mod] at this
  rw [getD_eq _ _ _ hk] at this
  simp only [sized, List.all_eq_true, Bool.and_eq_true, beq_iff_eq] at hs
  refine this.oneCell ?_
  have h2 := hs _ (List.getElem_mem hi)
  rw [getD_eq _ _ _ hi, getD_eq _ _ _ (by rw [h2.1]; exact hj)]
  exact h2.2 _ (List.getElem_mem _)

section
variable {P : Program} {B : Base} {g : Gh} {blk : Nat → Option Nat} {E : Env} {L : Boxes} {σ : Sh} {tmps : Array Value} {w : World}

theorem row_cells (hs : ShRel g σ w) {b off n : Nat} {c : List Value} (hc : g.vec b = some c) : ∀ j v, ((c.drop off).take n)[j]? = some v → w.cell? ((⟨b, off, none⟩ : Addr).add j) = some v := by
  intro j v hj
  obtain ⟨vals, T, fr, h1, h2⟩ := hs.vecs b c hc
  rw [Addr.add_lit, cell_of_row w b _ vals T fr h1]
  rw [List.getElem?_take] at hj
  split at hj
  · rw [List.getElem?_drop] at hj
    obtain ⟨t, ht⟩ := h2
    have hlt := (List.getElem?_eq_some_iff.1 hj).1
    rw [← Array.getElem?_toList, ← ht, List.getElem?_append_left hlt]
    exact hj
  · cases hj

/-- append, in place. -/
theorem run_append_at (t ty e T : TypeId) (i : TypeInfo) (ht : P.underlying t = some (.slice e)) (hi : P.info? e = some i)
    (b off sLen sCap : Nat) (cur : Array Value) (hg : w.heap[b]? = some (.cells cur T (0, 0))) (x : Value) (m : Nat) (news : List Value) (hx : Builtin.lenOf x = pure m)
    (hf : (Builtin.firstCells i.size m x).run P w = .ok news.toArray w) (h1 : ∀ u ∈ news, u.oneCell' = true)
    (hroom : sLen + m ≤ sCap) (hfit : off + sLen * i.size + news.length ≤ cur.size) :
    (Builtin.append_ #[t, t] ty #[.slice (some ⟨b, off, none⟩) sLen sCap, x]).run P w =
      .ok (.slice (some ⟨b, off, none⟩) (sLen + m) sCap) (w.setRow b (cur.toList.take (off + sLen * i.size) ++ news ++ cur.toList.drop (off + sLen * i.size + news.length)).toArray) := by
  have hst := run_storeCells_at P b (off + sLen * i.size) T news 0 cur w hg (by simpa using hfit) h1
  simp only [Nat.add_zero] at hst
  simp [Builtin.append_, run_underlying ht, Go.sizeOf, typeInfo, hi, hx, hroom, hf, Addr.add_lit, hst]

theorem run_append_none (t ty e : TypeId) (i : TypeInfo) (ht : P.underlying t = some (.slice e)) (hi : P.info? e = some i) (A : Option Addr) (n c : Nat) (hc : n ≤ c) (x : Value) (hx : Builtin.lenOf x = pure 0)
    (hf : (Builtin.firstCells i.size 0 x).run P w = .ok #[] w) :
    (Builtin.append_ #[t, t] ty #[.slice A n c, x]).run P w = .ok (.slice A n c) w := by
  cases A <;> simp [Builtin.append_, run_underlying ht, Go.sizeOf, typeInfo, hi, hx, hc, hf, storeCells]

def spend (tag : Tag) (live : List Nat) : List Nat :=
  match tag with
  | .tok t => live.filter (· ≠ t)
  | _ => live

theorem spend_sub (tag : Tag) (live : List Nat) {t : Nat} (h : t ∈ spend tag live) : t ∈ live := by
  unfold spend at h
  split at h
  · exact (List.mem_filter.1 h).1
  · exact h

theorem Free.spend {num : Nat} (h : Free B g σ num) (tag : Tag) : Free B g { σ with live := spend tag σ.live } num :=
  ⟨h.lo, h.hi, h.sh, h.tok, fun hm => h.live (spend_sub _ _ hm), h.ob⟩

theorem Free.drew {num : Nat} (h : Free B g σ num) : Free B g σ num := h

theorem moves_live {num : Nat} {tag : Tag} {g' : Gh} (le : g.le g') (nt : g'.nt = g.nt) (sh : ∀ i, i ≠ num → g'.sh i = g.sh i) (tok : ∀ i, i ≠ num → g'.tok i = g.tok i) :
    Moves g g' σ { σ with live := num :: spend tag σ.live } num :=
  ⟨le, nt, sh, tok, fun i hi hm => by
    rcases List.mem_cons.1 hm with rfl | hm
    · exact absurd rfl hi
    · exact spend_sub _ _ hm, fun _ _ h => h⟩

/-- Whether a full list that is appended to grows, or is none. -/
def fullOk : Tag → List AV → List AV → Bool
  | .full, _ :: _, [] => false
  | _, _, _ => true

theorem append_ok (h : Rel B g blk E L σ tmps w) {num : Nat} (hn : Free B g σ num) {t ty e : TypeId} {m by_ : Nat} {es es' : List AV} {tag tag' : Tag} {x y : Value} {z : AV} (hx : VR g (.list es tag) x) (hy : VR g (.list es' tag') y)
    (he : telem P t = some e) (hm : tsize P e = some m) (hb : tbytes P e = some by_) (hz : tzero P e = some z) (hzl : z.cells.length = m) (hs : sized m es = true) (hs' : sized m es' = true)
    (htag : tag = .full ∨ ∃ t, tag = .tok t ∧ t ∈ σ.live) (hlen : es.length + es'.length ≤ 1099511627776) (hby : by_ ≤ 128) (hfo : fullOk tag es es' = true) :
    ∃ u w' g', (Builtin.append_ #[t, t] ty #[x, y]).run P w = .ok u w' ∧ Rel B g' blk E L { σ with live := num :: spend tag σ.live } tmps w' ∧ VR g' (.list (es ++ es') (.tok num)) u ∧
      Moves g g' σ { σ with live := num :: spend tag σ.live } num := by
  obtain ⟨i, zv, hi, hiz, hzv⟩ := tzero_ok (g := g) hz
  have hsz : i.size = m := by simpa [tsize, hi] using hm
  have hbb : i.bytes = by_ := by simpa [tbytes, hi] using hb
  have hzs : zv.cells.size = m := by rw [hzv.cells.1, hzl]
  have hu := telem_und he
  have hbytes : (es.length + es'.length) * i.bytes ≤ 140737488355328 := by
    rw [hbb]
    exact Nat.le_trans (Nat.mul_le_mul hlen hby) (by decide)
  have hforget : Rel B g blk E L { σ with live := spend tag σ.live } tmps w := h.forget (fun _ _ h => h) (fun t ht => spend_sub _ _ ht)
  have hfree := hn.spend tag
  -- a new block
  have fresh : ∀ (olds news : List Value) (old : Nat), Row g m es olds → Row g m es' news → old < es.length + es'.length →
      ∃ g', Rel B g' blk E L { σ with live := num :: spend tag σ.live } tmps (w.drew.alloc (.cells (olds.toArray ++ news.toArray ++ Builtin.zeroCells zv.cells (grownCap w (es.length + es'.length) old e - (es.length + es'.length))) e)) ∧
        VR g' (.list (es ++ es') (.tok num)) (.slice (some ⟨w.heap.size, 0, none⟩) (es.length + es'.length) (grownCap w (es.length + es'.length) old e)) ∧ Moves g g' σ { σ with live := num :: spend tag σ.live } num := by
    intro olds news old ho hnw hlt
    have hge := grownCap_ge w (es.length + es'.length) old e
    have hcm := grownCap_le_maxLen w (es.length + es'.length) old e (by unfold maxLen; omega)
    have hrow := ho.append hnw
    have h1 := hforget.drew.newVec (olds.toArray ++ news.toArray ++ Builtin.zeroCells zv.cells (grownCap w (es.length + es'.length) old e - (es.length + es'.length))) e (olds ++ news) (by simp [List.prefix_append])
    have hvec : (g.setVec w.drew.heap.size (olds ++ news)).vec w.heap.size = some (olds ++ news) := by simp [Gh.setVec]
    have hnv := h.notNew
    have hle1 : g.le (g.setVec w.drew.heap.size (olds ++ news)) := Gh.le_setVec (fun c0 h0 => by simp [hnv.1] at h0)
    have hfree1 : Free B (g.setVec w.drew.heap.size (olds ++ news)) { σ with live := spend tag σ.live } num := ⟨hfree.lo, hfree.hi, hfree.sh, hfree.tok, hfree.live, hfree.ob⟩
    have hcells : (olds.toArray ++ news.toArray ++ Builtin.zeroCells zv.cells (grownCap w (es.length + es'.length) old e - (es.length + es'.length))).size = grownCap w (es.length + es'.length) old e * m := by
      simp only [Array.size_append, List.size_toArray, size_zeroCells, hzs, ho.1, hnw.1, ← Nat.add_mul]
      congr 1
      omega
    have hl : (olds ++ news).length = (es.length + es'.length) * m := by rw [hrow.1, List.length_append]
    have h2 := h1.mint (n := num) (b := w.heap.size) (fin := (es.length + es'.length) * m) (lim := grownCap w (es.length + es'.length) old e * m) hfree1 hvec hl
      (heap_alloc_new w.drew _) (by rw [hcells]; exact Nat.le_refl _) (fun hlt => absurd h.frame.size (by omega)) (fun t' ht' x' hx' => by
        have : g.tok t' = some (w.heap.size, x') := hx'
        exact h.sh.tokvec (spend_sub _ _ ht') this hnv.1)
    refine ⟨_, h2, ?_, moves_live (hle1.trans (Gh.le_setTok hn.tok)) rfl (fun _ _ => rfl) (fun i hi => by simp [Gh.setTok, Gh.setVec, hi])⟩
    have hfin := (hrow.mono (hle1.trans (Gh.le_setTok (n := num) (x := (w.heap.size, (es.length + es'.length) * m, grownCap w (es.length + es'.length) old e * m)) hn.tok))).vr (tag := .tok num) (b := w.heap.size) (off := 0) (cap := grownCap w (es.length + es'.length) old e) (c := olds ++ news) hvec ⟨[], by simp⟩ (Nat.zero_le _)
      (by simpa using hge) hcm (.inr ⟨by simp; omega, by simp [Gh.setTok]⟩)
    simpa using hfin
  -- what is appended
  have hyc : ∃ A c, y = .slice A es'.length c := by
    rcases hy.row hs' with ⟨rfl, rfl⟩ | ⟨b, off, cap, c, sz, rfl, _⟩
    · exact ⟨_, _, rfl⟩
    · exact ⟨_, _, rfl⟩
  by_cases h0 : es' = []
  · -- nothing
    subst h0
    obtain ⟨A', c', rfl⟩ := hyc
    have hf : (Builtin.firstCells i.size 0 (.slice A' ([] : List AV).length c')).run P w = .ok #[] w := by
      cases A' <;> simp [Builtin.firstCells, loadCells, loadCellsFrom]
    rcases hx.row hs with ⟨rfl, rfl⟩ | ⟨b, off, cap, c, sz, rfl, hc, hle, hcap, hmax, hfits, hrow, hszm⟩
    · refine ⟨_, _, g, run_append_none t ty e i hu hi none 0 0 (Nat.le_refl _) _ rfl hf, hforget.void hfree, .nils _, moves_live (Gh.le.refl g) rfl (fun _ _ => rfl) fun _ _ => rfl⟩
    · have hrun := run_append_none (P := P) (w := w) t ty e i hu hi (some ⟨b, off, none⟩) es.length cap hcap _ rfl hf
      by_cases hcl : cap = 0
      · refine ⟨_, _, g, hrun, hforget.void hfree, ?_, moves_live (Gh.le.refl g) rfl (fun _ _ => rfl) fun _ _ => rfl⟩
        have hof : off ≤ c.length := by omega
        rw [List.append_nil]
        cases hx with
        | list sz' _ _ _ _ _ c2 hc2 hle2 hcap2 hmax2 htag2 hsz2 hv2 => exact .list sz' es _ b off cap c2 hc2 hle2 hcap2 hmax2 (.inl hcl) hsz2 hv2
      · rcases htag with rfl | ⟨t', rfl, ht'⟩
        · cases es with
          | nil => exact absurd hfits hcl
          | cons a l => cases hfo
        · rcases hfits with hh | hh
          · exact absurd hh hcl
          · obtain ⟨hl0, hh⟩ := hh
            obtain ⟨c3, vals, T, f1, f2, f3, f4⟩ := h.sh.toks t' ht' _ _ _ hh
            have hnew : b < B.w.heap.size → Wr B.g B.σ b := fun hlt => h.frame.own b hlt (.inr ⟨t', ht', _, hh⟩)
            have h2 := hforget.mint (n := num) (b := b) (fin := off + es.length * sz) (lim := off + cap * sz) hfree f1 f2 f3 f4 hnew (fun t2 ht2 x2 hx2 => by
              have hm2 := List.mem_filter.1 ht2
              have := h.sh.tinj t2 t' b x2 _ hm2.1 ht' hx2 hh
              simp [this] at hm2)
            refine ⟨_, _, _, hrun, h2, ?_, moves_live (Gh.le_setTok hn.tok) rfl (fun _ _ => rfl) (fun i hi => by simp [Gh.setTok, hi])⟩
            rw [List.append_nil]
            cases hx with
            | list sz' _ _ _ _ _ c2 hc2 hle2 hcap2 hmax2 htag2 hsz2 hv2 =>
              have hle3 := Gh.le_setTok (g := g) (n := num) (x := (b, off + es.length * sz, off + cap * sz)) hn.tok
              have : sz = sz' := by
                rw [hszm (List.length_pos_iff.1 hl0), ← hrow.2.1 0 hl0, hsz2 0 hl0]
              subst this
              exact .list sz es _ b off cap c2 hc2 hle2 hcap2 hmax2 (.inr ⟨hl0, by simp [Gh.setTok]⟩) hsz2 fun i j hi hj => (hv2 i j hi hj).mono hle3
  · -- something
    have hpos : 0 < es'.length := List.length_pos_iff.2 h0
    rcases hy.row hs' with ⟨_, h1⟩ | ⟨b', off', cap', c', sz', rfl, hc', hle', hcap', hmax', hfits', hrow', hszm'⟩
    · exact absurd h1 h0
    · have hnews := row_cells h.sh (n := es'.length * m) (off := off') hc'
      have hln := hrow'.1
      rcases hx.row hs with ⟨rfl, rfl⟩ | ⟨b, off, cap, c, sz, rfl, hc, hle, hcap, hmax, hfits, hrow, hszm⟩
      · have hr := run_append_nil (P := P) w t ty e i zv hu hi hiz ⟨b', off', none⟩ es'.length cap' _ (by rw [hln, hsz]) hnews hpos (by simp at hlen; omega) (by simp at hbytes; omega)
        obtain ⟨g', r1, r2, r3⟩ := fresh [] _ 0 ⟨by simp, fun i hi => by simp at hi, fun i j hi => by simp at hi⟩ hrow' (by simp; omega)
        refine ⟨_, _, g', hr, ?_, ?_, r3⟩
        · simpa using r1
        · simpa using r2
      · by_cases hroom : es.length + es'.length ≤ cap
        · rcases htag with rfl | ⟨t', rfl, ht'⟩
          · have : cap = es.length := hfits
            omega
          · rcases hfits with hh | hh
            · omega
            · obtain ⟨hl0, hh⟩ := hh
              obtain rfl := hszm (List.length_pos_iff.1 hl0)
              obtain ⟨c3, vals, T, f1, f2, f3, f4⟩ := h.sh.toks t' ht' _ _ _ hh
              obtain rfl : c = c3 := by rw [hc] at f1; exact Option.some.inj f1
              obtain ⟨vals2, T2, fr2, g1, g2⟩ := h.sh.vecs b c hc
              rw [f3] at g1
              cases g1
              have hf := run_firstCells_some (P := P) w sz es'.length ⟨b', off', none⟩ es'.length cap' _ hln hnews
              have hone := hrow'.one hs'
              have hcm : (es.length + es'.length) * sz ≤ cap * sz := Nat.mul_le_mul_right _ hroom
              rw [Nat.add_mul] at hcm
              have hfit : off + es.length * sz + es'.length * sz ≤ vals.size := by omega
              have hr := run_append_at (P := P) (w := w) t ty e T i hu hi b off es.length cap vals f3 (.slice (some ⟨b', off', none⟩) es'.length cap') es'.length _ rfl (by rw [hsz]; exact hf) hone hroom (by rw [hsz, hln]; exact hfit)
              rw [hsz] at hr
              generalize hnl : (c'.drop off').take (es'.length * sz) = news at hr hrow' hln hone
              have hctake : vals.toList.take (off + es.length * sz) = c := by
                rw [← f2]
                exact (List.prefix_iff_eq_take.1 g2).symm
              have h1 := h.extend ht' hh hc f3 (news := news) (vals' := (vals.toList.take (off + es.length * sz) ++ news ++ vals.toList.drop (off + es.length * sz + news.length)).toArray) (by
                rw [hctake]
                simp [List.prefix_append])
              have hle0 : ∀ c0, g.vec b = some c0 → c0 <+: c ++ news := fun c0 h0 => by rw [hc] at h0; cases h0; exact List.prefix_append _ _
              have hle1 := Gh.le_setVec hle0
              have hvec : (g.setVec b (c ++ news)).vec b = some (c ++ news) := by simp [Gh.setVec]
              have hfree1 : Free B (g.setVec b (c ++ news)) { σ with live := spend (.tok t') σ.live } num := ⟨hfree.lo, hfree.hi, hfree.sh, hfree.tok, hfree.live, hfree.ob⟩
              have hnew : b < B.w.heap.size → Wr B.g B.σ b := fun hlt => h.frame.own b hlt (.inr ⟨t', ht', _, hh⟩)
              have h2 := h1.mint (n := num) (b := b) (fin := off + (es.length + es'.length) * sz) (lim := off + cap * sz) hfree1 hvec (by rw [List.length_append, f2, hln, Nat.add_mul]; omega) (setRow_at f3 _)
                (by simp; omega) hnew (fun t2 ht2 x2 hx2 => by
                  have hm2 := List.mem_filter.1 ht2
                  have := h.sh.tinj t2 t' b x2 _ hm2.1 ht' hx2 hh
                  simp [this] at hm2)
              refine ⟨_, _, _, hr, h2, ?_, moves_live (hle1.trans (Gh.le_setTok hn.tok)) rfl (fun _ _ => rfl) (fun i hi => by simp [Gh.setTok, Gh.setVec, hi])⟩
              have hrow2 := (hrow.append hrow').mono (hle1.trans (Gh.le_setTok (n := num) (x := (b, off + (es.length + es'.length) * sz, off + cap * sz)) hn.tok))
              have htk : (c.drop off).take (es.length * sz) = c.drop off := List.take_of_length_le (by simp; omega)
              have hfin := hrow2.vr (tag := .tok num) (b := b) (off := off) (cap := cap) (c := c ++ news) hvec ⟨[], by
                rw [htk, List.append_nil, List.drop_append_of_le_length (by omega)]⟩ (by simp; omega) (by simpa using hroom) hmax (.inr ⟨by simp; omega, by simp [Gh.setTok]⟩)
              simpa using hfin
        · have holds := row_cells h.sh (n := es.length * m) (off := off) hc
          have hr := run_append_grow (P := P) w t ty e i zv hu hi hiz ⟨b, off, none⟩ es.length cap _ (by rw [hrow.1, hsz]) holds ⟨b', off', none⟩ es'.length cap' _ (by rw [hln, hsz]) hnews (by omega) (by omega) (growslice_fits (by omega) hbytes)
          obtain ⟨g', r1, r2, r3⟩ := fresh _ _ cap hrow hrow' (by omega)
          exact ⟨_, _, g', hr, r1, r2, r3⟩

end
end Go.Am
