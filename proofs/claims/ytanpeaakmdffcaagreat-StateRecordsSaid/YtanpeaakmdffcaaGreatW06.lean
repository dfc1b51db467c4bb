/- What functions of this program compute, a part: see the main text. No conditions. -/
import Derived.Test.YtanpeaakmdffcaaGreatW05
import Derived.Laws.MakeOwn
set_option linter.all false
set_option maxRecDepth 100000
namespace Go.Am
open Go

/-- The cells of a new variable. -/
def azero (P : Program) (t : TypeId) : Option (List AV) :=
  match tzero P t, tsize P t with
  | some z, some n => if z.cells.length = n then some z.cells else none
  | _, _ => none

def mayApp (tag : Tag) (live : List Nat) : Bool :=
  match tag with
  | .full => true
  | .tok t => live.contains t
  | .no => false

/-- So many cells, the same ones again and again. -/
def filled (cs : List AV) (n : Nat) : List AV := (List.range n).map fun i => cs.getD (i % cs.length) default

noncomputable def aeff (P : Program) (esc : Nat → Bool) (num : Nat) (o : Oper) (E : Env) (L : Boxes) (σ : Sh) : Option (Option AV × Boxes × Sh) :=
  match o.op with
  | .alloc e => match o.dst, azero P e with
    | some k, some cs => if esc k then some (some (.ptr num 0), L, σ.setOb num (.cells cs)) else if noRef k E then some (some (.lref k 0), (k, cs) :: L, σ) else none
    | _, _ => none
  | .box e x => match o.dst, look E x with
    | some k, some v => if v.free then (match acellsOf P e v with
      | some cs => if esc k then some (some (.ptr num 0), L, σ.setOb num (.cells cs)) else if noRef k E then some (some (.lref k 0), (k, cs) :: L, σ) else none
      | none => none) else none
    | _, _ => none
  | .buildSlice t len parts => match telem P t with
    | some e => match tsize P e, azero P e, lookp (look E) parts.toList with
      | some m, some _, some l => if l.map (·.1) = List.range len ∧ (len ≤ 2 ^ 24 ∧ len * m ≤ 2 ^ 24) ∧ sized m (l.map (·.2)) = true ∧ l.all (fun x => x.2.free) = true then some (some (.list (l.map (·.2)) .full), L, σ) else none
      | _, _, _ => none
    | none => none
  | .store t a x => match o.dst, look E a, look E x with
    | none, some a, some v => if v.free then (match acellsOf P t v with
      | some ns => (match a with
        | .lref k off => match L.get k with
          | some cs => (asplice cs off ns).map fun cs' => (none, (k, cs') :: L, σ)
          | none => none
        | .ptr id off => match σ.ob id with
          | some (.cells cs) => (asplice cs off ns).map fun cs' => (none, L, σ.setOb id (.cells cs'))
          | _ => none
        | _ => none)
      | none => none) else none
    | _, _, _ => none
  | .makeSlice t l c => match look E l, look E c, telem P t with
    | some (.int _ n), some (.int _ n'), some e => (match tsize P e, tbytes P e, azero P e with
      | some m, some b, some cs => if 0 ≤ n ∧ n = n' ∧ n.toNat * m ≤ 16777216 ∧ n ≤ 1099511627776 ∧ b ≤ 128 ∧ m = cs.length
        then some (some (.sl num n.toNat), L, σ.setOb num (.cells (filled cs (n.toNat * m)))) else none
      | _, _, _ => none)
    | _, _, _ => none
  | .call { callee := .builtin .append, args, argTypes } => match args.toList, argTypes.toList with
    | [s, x], [t, t'] => if t = t' then (match look E s, look E x, telem P t with
      | some (.list es tag), some (.list es' _), some e => (match tsize P e, tbytes P e, azero P e with
        | some m, some b, some _ => if sized m es = true ∧ sized m es' = true ∧ es.length + es'.length ≤ 1099511627776 ∧ b ≤ 128 ∧ mayApp tag σ.live = true ∧ fullOk tag es es' = true
          then some (some (.list (es ++ es') (.tok num)), L, { σ with live := num :: spend tag σ.live }) else none
        | _, _, _ => none)
      | _, _, _ => none) else none
    | _, _ => none
  | _ => none

noncomputable def astep (P : Program) (esc : Nat → Bool) (num : Nat) (o : Oper) (E : Env) (L : Boxes) (σ : Sh) : Option (Option AV × Boxes × Sh) :=
  match aq P o.op (look E) L σ with
  | some v => some (some v, L, σ)
  | none => aeff P esc num o E L σ

theorem afill_parts {m : Nat} : ∀ (l : List (Nat × AV)) (k n : Nat) (pre post : List AV), l.map (·.1) = List.range' k n → (∀ x ∈ l, x.2.cells.length = m) → pre.length = k * m → post.length = l.length * m →
    afill (fun i => some (i * m, m)) (pre ++ post) l = some (pre ++ (l.map (·.2)).flatMap AV.cells)
  | [], k, n, pre, post, _, _, _, hp => by
    have : post = [] := List.eq_nil_of_length_eq_zero (by simpa using hp)
    simp [afill, this]
  | (i, v) :: l, k, n, pre, post, hl, hc, hpre, hpost => by
    cases n with
    | zero => simp at hl
    | succ n =>
      simp only [List.map_cons, List.range'_succ, List.cons.injEq] at hl
      obtain ⟨rfl, hl⟩ := hl
      have hv : v.cells.length = m := hc (i, v) (by simp)
      simp only [List.length_cons, Nat.add_mul, Nat.one_mul] at hpost
      simp only [afill]
      rw [if_pos ⟨hv, by simp; omega⟩]
      have e1 : (pre ++ post).take (i * m) = pre := by rw [← hpre]; simp
      have e2 : (pre ++ post).drop (i * m + m) = post.drop m := by rw [← hpre]; simp [List.drop_append]
      rw [e1, e2]
      have := afill_parts l (i + 1) n (pre ++ v.cells) (post.drop m) hl (fun x hx => hc x (List.mem_cons_of_mem _ hx)) (by simp [hpre, hv, Nat.add_mul]) (by simp; omega)
      rw [this]
      simp

theorem flat_getD {m : Nat} : ∀ (es : List AV), (∀ x ∈ es, x.cells.length = m) → ∀ i j, i < es.length → j < m → (es.flatMap AV.cells).getD (i * m + j) default = (es.getD i default).cells.getD j default
  | [], _, i, j, hi, _ => by simp at hi
  | e :: es, h, i, j, hi, hj => by
    have he : e.cells.length = m := h e (by simp)
    cases i with
    | zero =>
      simp only [List.flatMap_cons, Nat.zero_mul, Nat.zero_add, List.getD]
      rw [List.getElem?_append_left (by omega)]
      rfl
    | succ i =>
      have ih := flat_getD es (fun x hx => h x (List.mem_cons_of_mem _ hx)) i j (by simpa using hi) hj
      simp only [List.flatMap_cons, List.getD] at ih ⊢
      rw [List.getElem?_append_right (by rw [he, Nat.add_mul]; omega), he, show (i + 1) * m + j - m = i * m + j by rw [Nat.add_mul]; omega]
      exact ih

/-- What an operation hands back. -/
def Yields (g : Gh) (blk : Nat → Option Nat) (o : Oper) (v : Option AV) (r : Next) : Prop :=
  match v with
  | some a => ∃ u, r = .value u ∧ SR g blk a u
  | none => r = .skip ∧ o.dst = none

section
variable {P : Program} {B : Base} {g : Gh} {blk : Nat → Option Nat} {E : Env} {L : Boxes} {σ : Sh} {tmps : Array Value} {w : World}

theorem azero_ok {t : TypeId} {cs : List AV} (h : azero P t = some cs) : ∃ z i zv, tzero P t = some z ∧ z.cells = cs ∧ P.info? t = some i ∧ i.zero = some zv ∧ i.size = cs.length ∧ VR g z zv ∧ tsize P t = some cs.length := by
  simp only [azero] at h
  split at h
  · rename_i z n hz hn
    split at h
    · rename_i hl
      cases h
      obtain ⟨i, zv, h1, h2, h3⟩ := tzero_ok (g := g) hz
      refine ⟨z, i, zv, hz, rfl, h1, h2, ?_, h3, by rw [hl]; exact hn⟩
      simp [tsize, h1] at hn
      omega
    · cases h
  · cases h

theorem newBox (h : Rel B g blk E L σ tmps w) {num : Nat} (hn : Free B g σ num) {esc : Nat → Bool} {k : Nat} {cs : List AV} {vals : Array Value} {T : TypeId} (hh : Holds g cs vals) {v : AV} {L' : Boxes} {σ' : Sh}
    (hs : (if esc k then some (some (AV.ptr num 0), L, σ.setOb num (.cells cs)) else if noRef k E then some (some (.lref k 0), (k, cs) :: L, σ) else none) = some (some v, L', σ')) :
    ∃ g' blk', Rel B g' blk' E L' σ' tmps (w.alloc (.cells vals T)) ∧ Moves g g' σ σ' num ∧ SR g' blk' v (.pointer (some ⟨w.heap.size, 0, none⟩)) := by
  split at hs
  · cases hs
    have ho : (Ob.cells cs).is g (some (.cells vals T)) := ⟨vals, T, rfl, hh.1, hh.2⟩
    refine ⟨_, blk, h.newSh hn _ _ ho, ⟨Gh.le_setSh hn.sh, rfl, fun i hi => by simp [Gh.setSh, hi], fun _ _ => rfl, fun _ _ h => h, fun i hi h => by simp [Sh.setOb, hi, h]⟩, ?_⟩
    exact .ptr num 0 _ (by simp [Gh.setSh])
  · split at hs
    · rename_i hr
      cases hs
      exact ⟨g, _, h.newLoc k vals T cs hh.1 hh.2 (noRef_ok hr), Moves.refl g σ num, w.heap.size, by simp, rfl⟩
    · cases hs

theorem acellsOf_ok {t : TypeId} {v : AV} {ns : List AV} (h : acellsOf P t v = some ns) : ns = v.cells := by
  simp only [acellsOf] at h
  split at h
  · split at h
    · cases h; rfl
    · cases h
  · cases h

theorem aeff_ok (h : Rel B g blk E L σ tmps w) {num : Nat} (hn : Free B g σ num) {esc : Nat → Bool} {o : Oper} {v : Option AV} {L' : Boxes} {σ' : Sh} (hs : aeff P esc num o E L σ = some (v, L', σ')) :
    ∃ r w' g' blk', (execOp (Act.eval ⟨tmps, []⟩) o).run P w = .ok r w' ∧ Rel B g' blk' E L' σ' tmps w' ∧ Moves g g' σ σ' num ∧
      Yields g' blk' o v r := by
  unfold aeff at hs
  unfold execOp
  split at hs
  · rename_i e hx
    rw [hx]
    split at hs
    · rename_i k cs hk hz
      obtain ⟨z, i, zv, z1, z2, z3, z4, z5, z6, z7⟩ := azero_ok (g := g) hz
      have hv : ∃ a, v = some a := by
        split at hs
        · cases hs; exact ⟨_, rfl⟩
        · split at hs <;> cases hs; exact ⟨_, rfl⟩
      obtain ⟨a, rfl⟩ := hv
      have hh : Holds g cs zv.cells := by rw [← z2]; exact z6.cells
      obtain ⟨g', blk', r1, r2, r3⟩ := newBox (T := e) h hn hh hs
      refine ⟨_, _, g', blk', ?_, r1, r2, _, rfl, r3⟩
      simp [Instr.alloc, zeroValue, typeInfo, z3, z4, newVar, newRow]
    · cases hs
  · rename_i e x hx
    rw [hx]
    split at hs
    · rename_i k a hk ha
      split at hs
      · rename_i hf
        split at hs
        · rename_i cs hcs
          have hv : ∃ a, v = some a := by
            split at hs
            · cases hs; exact ⟨_, rfl⟩
            · split at hs <;> cases hs; exact ⟨_, rfl⟩
          obtain ⟨b, rfl⟩ := hv
          obtain rfl := acellsOf_ok hcs
          obtain ⟨g', blk', r1, r2, r3⟩ := newBox (T := e) h hn ((look_ok h ha).vr hf).cells hs
          refine ⟨_, _, g', blk', ?_, r1, r2, _, rfl, r3⟩
          simp [Instr.box, newVar, newRow]
        · cases hs
      · cases hs
    · cases hs
  · rename_i t len parts hx
    rw [hx]
    split at hs
    · rename_i e he
      split at hs
      · rename_i m cs l hm hz hl
        split at hs
        · rename_i hc
          obtain ⟨c1, c2, c3, c4⟩ := hc
          cases hs
          obtain ⟨z, i, zv, z1, z2, z3, z4, z5, z6, z7⟩ := azero_ok (g := g) hz
          have hml : cs.length = m := by rw [hm] at z7; exact (Option.some.inj z7).symm
          obtain ⟨e1, e2⟩ := lookp_ok h hl
          have hlen : l.length = len := by have := congrArg List.length c1; simpa using this
          have hsz : ∀ x ∈ l, x.2.cells.length = m := fun x hx => by
            simp only [sized, List.all_eq_true, Bool.and_eq_true, beq_iff_eq, List.mem_map] at c3
            exact (c3 x.2 ⟨x, hx, rfl⟩).1
          have hzero : Holds g ((List.range (len * m)).map fun i => cs.getD (i % m) default) ((Array.range (len * m)).map fun i => (if len * m = 0 then #[] else zv.cells)[i % (if len * m = 0 then #[] else zv.cells).size]!) := by
            refine ⟨by simp, fun j hj => ?_⟩
            simp only [List.length_map, List.length_range] at hj
            have hne : ¬ len * m = 0 := by omega
            simp only [if_neg hne]
            have hzc := z6.cells
            rw [z2] at hzc
            have hm0 : 0 < m := by
              rcases Nat.eq_zero_or_pos m with h0 | h0
              · subst h0; simp at hj
              · exact h0
            have hjm : j % m < cs.length := by rw [hml]; exact Nat.mod_lt _ hm0
            have h3 := hzc.2 (j % m) hjm
            have hs' : zv.cells.size = m := by rw [hzc.1, hml]
            have hlt : j % zv.cells.size < zv.cells.size := by rw [hs']; exact Nat.mod_lt _ hm0
            have e : (((Array.range (len * m)).map fun i => zv.cells[i % zv.cells.size]!).getD j undef) = zv.cells.getD (j % m) undef := by
              rw [Array.getD_eq_getD_getElem?, Array.getElem?_map]
              rw [show (Array.range (len * m))[j]? = some j by simp [hj]]
              simp only [Option.map_some, Option.getD_some]
              rw [getElem!_pos zv.cells (j % zv.cells.size) hlt]
              rw [Array.getD_eq_getD_getElem?, ← hs', Array.getElem?_eq_getElem hlt]
              rfl
            rw [e]
            simpa [List.getD, hj] using h3
          have haf := afill_parts (m := m) l 0 len [] ((List.range (len * m)).map fun i => cs.getD (i % m) default) (by rw [← List.range_eq_range']; exact c1) hsz (by simp) (by simp [hlen])
          simp only [List.nil_append] at haf
          obtain ⟨cells, f1, f2⟩ := afill_ok (g := g) (vs := (parts.map fun (i, x) => (i, Act.eval ⟨tmps, []⟩ x)).toList) haf hzero (by simpa using e1) (fun i hi => by
            have := e2 i hi
            rw [Array.toList_map]
            refine ⟨this.1, this.2.vr ?_⟩
            rw [getD_eq _ _ _ hi]
            exact List.all_eq_true.1 c4 _ (List.getElem_mem hi))
          have hes : ∀ x ∈ l.map (·.2), x.cells.length = m := fun x hx => by
            obtain ⟨y, hy, rfl⟩ := List.mem_map.1 hx
            exact hsz y hy
          have hfl : ((l.map (·.2)).flatMap AV.cells).length = len * m := by
            have : ∀ es : List AV, (∀ x ∈ es, x.cells.length = m) → (es.flatMap AV.cells).length = es.length * m := by
              intro es
              induction es with
              | nil => intro _; simp
              | cons a es ih => intro hh; simp [ih (fun x hx => hh x (List.mem_cons_of_mem _ hx)), hh a (by simp), Nat.add_mul]; omega
            rw [this _ hes, List.length_map, hlen]
          have hrow : Row g m (l.map (·.2)) cells.toList := by
            refine ⟨by simp [f2.1, hfl, hlen], fun i hi => ?_, fun i j hi hj => ?_⟩
            · rw [getD_eq _ _ _ hi]; exact hes _ (List.getElem_mem hi)
            · have hij : i * m + j < len * m := by
                have : (i + 1) * m ≤ len * m := Nat.mul_le_mul_right _ (by simp [hlen] at hi; omega)
                rw [Nat.add_mul, Nat.one_mul] at this
                omega
              have h3 := f2.2 (i * m + j) (by rw [hfl]; exact hij)
              rw [flat_getD _ hes i j hi hj] at h3
              simpa [Array.getD_eq_getD_getElem?, List.getD] using h3
          have hr1 := h.newVec cells e cells.toList (List.prefix_refl _)
          have hnv := h.notNew
          have hle1 : g.le (g.setVec w.heap.size cells.toList) := Gh.le_setVec (fun c0 h0 => by simp [hnv.1] at h0)
          have hm24 : len ≤ maxLen := by unfold maxLen; omega
          have hbig : ¬ (2 ^ 24 < len * m) := by omega
          have hrun : (Instr.buildSlice t len (parts.map fun (i, x) => (i, Act.eval ⟨tmps, []⟩ x))).run P w = .ok (.slice (some ⟨w.heap.size, 0, none⟩) len len) (w.alloc (.cells cells e)) := by
            have hf1 := f1
            rw [Array.toList_map] at hf1
            simp only [Instr.buildSlice, Sem.run_bind, run_underlying (telem_und he), Result.andThen_ok, tsize_run hm]
            rw [if_neg hbig]
            by_cases h0 : len * m = 0
            · rw [if_pos h0]
              simp only [if_pos h0] at hf1
              simp only [Sem.run_bind, Sem.run_pure, Result.andThen_ok, Array.toList_map, hf1, newRow, run_newObj]
              rfl
            · rw [if_neg h0]
              simp only [if_neg h0] at hf1
              have hz0 : (zeroValue e).run P w = .ok zv w := by simp [zeroValue, typeInfo, z3, z4]
              simp only [Sem.run_bind, hz0, Sem.run_pure, Result.andThen_ok, Array.toList_map, hf1, newRow, run_newObj]
              rfl
          refine ⟨.value (.slice (some ⟨w.heap.size, 0, none⟩) len len), w.alloc (.cells cells e), _, blk, by rw [Sem.run_bind, hrun]; rfl, hr1, ⟨hle1, rfl, fun _ _ => rfl, fun _ _ => rfl, fun _ _ h => h, fun _ _ h => h⟩, _, rfl, VR.sr ?_⟩
          have := (hrow.mono hle1).vr (tag := .full) (b := w.heap.size) (off := 0) (cap := len) (c := cells.toList) (by simp [Gh.setVec]) ⟨[], by simp⟩ (Nat.zero_le _) (by simp [hlen]) hm24 (by simp [Tag.fits, hlen])
          simpa [hlen] using this
        · cases hs
      · cases hs
    · cases hs
  · rename_i t a x hx
    rw [hx]
    split at hs
    · rename_i a' v' hd ha hv
      split at hs
      · rename_i hf
        split at hs
        · rename_i ns hns
          have hvr := (look_ok h hv).vr hf
          have har := look_ok h ha
          split at hs
          · rename_i k off
            split at hs
            · rename_i cs hcs
              simp only [Option.map_eq_some_iff] at hs
              obtain ⟨cs', h1, h2⟩ := hs
              cases h2
              obtain ⟨b, hb, hbx⟩ := har
              obtain ⟨b', e1, e2, e3, e4, e5⟩ := h.locs k cs hcs
              obtain rfl : b' = b := by rw [e1] at hb; exact Option.some.inj hb
              obtain ⟨vals, T, f1, f2, f3⟩ := e3.ex
              obtain ⟨vals', r1, r2, r3⟩ := storeVar_ok (P := P) (off := off) f1 f2 f3 hvr hns h1
              refine ⟨.skip, _, g, blk, ?_, h.setLoc hcs e1 vals' r2 r3, Moves.refl g σ num, rfl, hd⟩
              simp [hbx, Instr.storeAt, Instr.sureAddr, r1]
            · cases hs
          · rename_i id off
            split at hs
            · rename_i cs hcs
              simp only [Option.map_eq_some_iff] at hs
              obtain ⟨cs', h1, h2⟩ := hs
              cases h2
              generalize hg : Act.eval ⟨tmps, []⟩ a = u at har
              cases har with
              | ptr _ _ b hb =>
                obtain ⟨b', e1, e2, e3⟩ := h.sh.obs id _ hcs
                obtain rfl : b' = b := by rw [e1] at hb; exact Option.some.inj hb
                obtain ⟨vals, T, f1, f2, f3⟩ := e2.ex
                obtain ⟨vals', r1, r2, r3⟩ := storeVar_ok (P := P) (off := off) f1 f2 f3 hvr hns h1
                refine ⟨.skip, w.setRow b' vals', g, blk, ?_, h.setSh hcs e1 (by simp) rfl rfl rfl (fun k hk => setRow_ne _ _ _ _ hk) (show Ob.cellsAre g cs' _ from ⟨vals', T, setRow_at f1 vals', r2, r3⟩), ?_, rfl, hd⟩
                · simp [hg, Instr.storeAt, Instr.sureAddr, r1]
                · exact ⟨Gh.le.refl g, rfl, fun _ _ => rfl, fun _ _ => rfl, fun _ _ h => h, fun i _ hi => by
                    have : i ≠ id := fun e => by subst e; rw [hcs] at hi; cases hi
                    simp [Sh.setOb, this, hi]⟩
            · cases hs
          · cases hs
        · cases hs
      · cases hs
    · cases hs
  · rename_i t l c hx
    rw [hx]
    split at hs
    · rename_i k1 n k2 n' e hl hc he
      split at hs
      · rename_i m b cs hm hb hz
        split at hs
        · rename_i hcond
          obtain ⟨c1, rfl, c3, c4, c5, rfl⟩ := hcond
          cases hs
          obtain ⟨z, i, zv, z1, z2, z3, z4, z5, z6, z7⟩ := azero_ok (g := g) hz
          have hlr := look_ok h hl
          have hcr := look_ok h hc
          have hbb : i.bytes = b := by simpa [tbytes, z3] using hb
          have hzz : zv.cells.size = cs.length := by rw [← z2]; exact z6.cells.1
          generalize hg1 : Act.eval ⟨tmps, []⟩ l = u1 at hlr
          generalize hg2 : Act.eval ⟨tmps, []⟩ c = u2 at hcr
          cases hlr
          cases hcr
          have hbytes : (i.bytes : Int) * n ≤ 281474976710656 := by
            rw [hbb]
            have h1 : (b : Int) * n ≤ 128 * 1099511627776 := Int.mul_le_mul (by omega) c4 c1 (by decide)
            omega
          have hrun := run_makeSlice (P := P) w t e i zv (telem_und he) z3 z4 k1 k2 n n c1 (Int.le_refl _) (by rw [z5]; exact c3) hbytes (by omega)
          have ho : (Ob.cells (filled cs (n.toNat * cs.length))).is g (some (.cells (madeCells zv.cells (n.toNat * i.size)) e)) := by
            refine ⟨_, e, rfl, by simp [filled, size_madeCells, z5], fun j hj => ?_⟩
            have hj' : j < n.toNat * cs.length := by simpa [filled] using hj
            have hpos : 0 < cs.length := by
              rcases Nat.eq_zero_or_pos cs.length with h0 | h0
              · rw [h0] at hj'; omega
              · exact h0
            have hm2 : j % cs.length < cs.length := Nat.mod_lt _ hpos
            have := z6.cells.2 (j % cs.length) (by rw [z2]; exact hm2)
            rw [z2] at this
            have hr2 : (madeCells zv.cells (n.toNat * i.size)).getD j undef = zv.cells.getD (j % cs.length) undef := by
              have : j < n.toNat * i.size := by rw [z5]; exact hj'
              have h3 : j % cs.length < zv.cells.size := by omega
              simp only [madeCells, Array.getD_eq_getD_getElem?, Array.getElem?_map, Array.getElem?_range, this, if_true, Option.map_some, Option.getD_some, hzz, Array.getElem?_eq_getElem h3]
              exact getElem!_pos zv.cells (j % cs.length) h3
            rw [hr2]
            have hl2 : (filled cs (n.toNat * cs.length)).getD j default = cs.getD (j % cs.length) default := by
              simp [filled, List.getD, hj']
            rw [hl2]
            exact this
          refine ⟨.value (.slice (some ⟨w.heap.size, 0, none⟩) n.toNat n.toNat), w.alloc (.cells (madeCells zv.cells (n.toNat * i.size)) e), _, blk, ?_, h.newSh hn _ _ ho, ⟨Gh.le_setSh hn.sh, rfl, fun i hi => by simp [Gh.setSh, hi], fun _ _ => rfl, fun _ _ h => h, fun i hi h => by simp [Sh.setOb, hi, h]⟩, _, rfl, ?_⟩
          · simp only [hg1, hg2]
            rw [Sem.run_bind, hrun]
            rfl
          · exact VR.sl num _ _ (by simp [Gh.setSh])
        · cases hs
      · cases hs
    · cases hs
  · rename_i args tys hx
    rw [hx]
    split at hs
    · rename_i s x t t' hargs htys
      obtain ⟨args⟩ := args
      obtain ⟨tys⟩ := tys
      simp only at hargs htys
      subst hargs
      subst htys
      split at hs
      · rename_i htt
        subst htt
        split at hs
        · rename_i es tag es' tag' e hes hes' he
          split at hs
          · rename_i m b cs hm hb hz
            split at hs
            · rename_i hc
              obtain ⟨c1, c2, c3, c4, c5, c6⟩ := hc
              cases hs
              obtain ⟨z, i, zv, z1, z2, z3, z4, z5, z6, z7⟩ := azero_ok (g := g) hz
              have hml : z.cells.length = m := by rw [z2]; rw [hm] at z7; exact (Option.some.inj z7).symm
              have htag : tag = .full ∨ ∃ t, tag = .tok t ∧ t ∈ σ.live := by
                cases tag with
                | no => cases c5
                | full => exact .inl rfl
                | tok t => exact .inr ⟨t, rfl, by simpa [mayApp] using c5⟩
              obtain ⟨u, w', g', r1, r2, r3, r4⟩ := append_ok (P := P) (ty := o.type) h hn ((look_ok h hes).vr rfl) ((look_ok h hes').vr rfl) he hm hb z1 hml c1 c2 htag c3 c4 c6
              refine ⟨.value u, w', g', blk, ?_, r2, r4, u, rfl, r3.sr⟩
              simp [resolve, invoke, builtin, r1]
            · cases hs
          · cases hs
        · cases hs
      · cases hs
    · cases hs
  · cases hs

theorem astep_ok (h : Rel B g blk E L σ tmps w) {num : Nat} (hn : Free B g σ num) {esc : Nat → Bool} {o : Oper} {v : Option AV} {L' : Boxes} {σ' : Sh} (hs : astep P esc num o E L σ = some (v, L', σ')) :
    ∃ r w' g' blk', (execOp (Act.eval ⟨tmps, []⟩) o).run P w = .ok r w' ∧ Rel B g' blk' E L' σ' tmps w' ∧ Moves g g' σ σ' num ∧
      Yields g' blk' o v r := by
  unfold astep at hs
  split at hs
  · rename_i v' hv
    cases hs
    obtain ⟨u, e1, e2⟩ := aq_ok h hv
    exact ⟨_, w, g, blk, e1, h, Moves.refl g σ num, u, rfl, e2⟩
  · exact aeff_ok h hn hs
end
end Go.Am
namespace Go.Am
open Go

/-- What stands behind a call. -/
structure Post (g : Gh) (σ : Sh) (w : World) (g' : Gh) (σ' : Sh) (w' : World) : Prop where
  sh : ShRel g' σ' w'
  le : g.le g'
  nums : Nums g.nt g g'
  frame : FrameC g σ w g' σ' w'
  old : Old g.nt σ σ'

def AreVR (g : Gh) (as : List AV) (vs : List Value) : Prop := vs.length = as.length ∧ ∀ i, i < as.length → VR g (as.getD i default) (vs.getD i undef)

/-- A call, whatever the world is: what it hands back, and the shared state behind it. -/
structure ACalls (P : Program) (f : FuncId) (args : List AV) (σ : Sh) (R : AV → Sh → Prop) : Prop where
  ent : ∀ a w, (callFunc f a).run P w = .ok (.enter f a) w
  run : ∀ (g : Gh) (w : World) (vs : Array Value), ShRel g σ w → AreVR g args vs.toList →
    Calls P f vs w fun e w' => ∃ r σ' g' v, e = .returned v ∧ VR g' r v ∧ Post g σ w g' σ' w' ∧ R r σ'

theorem ACalls.mono {P : Program} {f : FuncId} {args : List AV} {σ : Sh} {R R' : AV → Sh → Prop} (h : ACalls P f args σ R) (hr : ∀ r σ', R r σ' → R' r σ') : ACalls P f args σ R' :=
  ⟨h.ent, fun g w vs h1 h2 => (h.run g w vs h1 h2).mono fun _ _ ⟨r, σ', g', v, e1, e2, e3, e4⟩ => ⟨r, σ', g', v, e1, e2, e3, hr _ _ e4⟩⟩

/-- A call that leaves what is shared as it was. -/
def PCalls (P : Program) (f : FuncId) (args : List AV) (r : AV) : Prop := ∀ σ, ACalls P f args σ fun r' σ' => r' = r ∧ σ' = σ

/-- The function that is called, and its arguments. -/
def acall (o : Oper) (E : Env) : Option (FuncId × List AV) :=
  match o.op with
  | .call { callee := .value f, args, .. } => match look E f, looks (look E) args.toList with
    | some (.func (.func f) caps), some l => if l.all AV.free then some (f, l ++ caps) else none
    | _, _ => none
  | _ => none

def awant (dl : List (Option Tmp)) (E : Env) (o : Oper) : Option Bool :=
  match o.guard with
  | none => some true
  | some (j, want) => match dl[j]? with
    | some (some d) => match E.get d with
      | some (.bool b) => some (b == want)
      | some (.tuple _) => some false
      | _ => none
    | _ => none

def Env.del (E : Env) (d : Nat) : Env := E.filter fun x => x.1 != d
def putE (d : Option Tmp) (v : Option AV) (E : Env) : Env :=
  match d, v with
  | some d, some v => (d, v) :: E
  | some d, none => (d, .tuple []) :: E
  | none, _ => E

theorem Env.del_get (E : Env) (d s : Nat) : (E.del d).get s = if s = d then none else E.get s := by
  induction E with
  | nil => simp [Env.del, Env.get]
  | cons x E ih =>
    obtain ⟨k, v⟩ := x
    simp only [Env.del, List.filter_cons]
    by_cases hk : k = d
    · subst hk
      simp only [bne_self_eq_false, Bool.false_eq_true, if_false, Env.get]
      rw [show List.filter (fun x => x.1 != k) E = Env.del E k from rfl, ih]
      by_cases hs : s = k <;> simp [hs]
    · have : (k != d) = true := by simpa using hk
      simp only [this, if_true, Env.get]
      rw [show List.filter (fun x => x.1 != d) E = Env.del E d from rfl, ih]
      by_cases hs : s = k
      · subst hs; simp [hk]
      · simp [hs]

section
variable {P : Program} {B : Base} {g g' : Gh} {blk : Nat → Option Nat} {E : Env} {L : Boxes} {σ σ' : Sh} {tmps : Array Value} {w w' : World}

theorem Rel.post (h : Rel B g blk E L σ tmps w) (hp : Post g σ w g' σ' w') : Rel B g' blk E L σ' tmps w' :=
  h.step hp.le hp.sh hp.frame (hp.nums.mono (h.ext.nt)) (hp.old.mono h.ext.nt)

theorem awant_ok {ops : Array Oper} (h : Rel B g blk E L σ tmps w) {o : Oper} {b : Bool} (hb : awant (ops.toList.map (·.dst)) E o = some b) : Region.wanted o (yielded ops tmps) = b := by
  unfold awant at hb
  unfold Region.wanted
  split at hb
  · rename_i hg; cases hb; simp [hg]
  · rename_i j want hg
    split at hb
    · rename_i d hd
      split at hb
      · rename_i b' hget
        cases hb
        obtain ⟨x, h1, h2⟩ := h.slots d _ hget
        cases h2
        have hd' : (ops[j]?).bind (·.dst) = some d := by
          simp only [List.getElem?_map, Array.getElem?_toList, Option.map_eq_some_iff] at hd
          obtain ⟨o', e1, e2⟩ := hd
          simp [e1, e2]
        simp only [hg, yielded, hd', Option.bind_some, h1]
        rfl
      · rename_i vs hget
        cases hb
        obtain ⟨x, h1, h2⟩ := h.slots d _ hget
        cases h2
        have hd' : (ops[j]?).bind (·.dst) = some d := by
          simp only [List.getElem?_map, Array.getElem?_toList, Option.map_eq_some_iff] at hd
          obtain ⟨o', e1, e2⟩ := hd
          simp [e1, e2]
        simp only [hg, yielded, hd', Option.bind_some, h1]
        rfl
      · cases hb
    · cases hb

theorem acall_ok (h : Rel B g blk E L σ tmps w) {o : Oper} {f : FuncId} {args : List AV} (hc : acall o E = some (f, args)) (hent : ∀ a w, (callFunc f a).run P w = .ok (.enter f a) w) :
    ∃ vs : Array Value, (execOp (Act.eval ⟨tmps, []⟩) o).run P w = .ok (.enter f vs) w ∧ AreVR g args vs.toList := by
  unfold acall at hc
  unfold execOp
  split at hc
  · rename_i f' as tys hx
    rw [hx]
    split at hc
    · rename_i f'' caps l h1 h2
      split at hc
      · rename_i hall
        cases hc
        have hf := look_ok h h1
        obtain ⟨e1, e2⟩ := looks_ok h h2
        generalize hg : Act.eval ⟨tmps, []⟩ f' = u at hf
        cases hf with
        | func _ _ cv hl hv =>
          refine ⟨as.map (Act.eval ⟨tmps, []⟩) ++ cv, ?_, ?_, fun i hi => ?_⟩
          · simp [resolve, hg, Deferred.ofValue, invoke, hent]
          · simp; simp at e1; omega
          · by_cases hlt : i < l.length
            · have h3 := (e2 i hlt).vr (by
                rw [getD_eq _ _ _ hlt]
                exact List.all_eq_true.1 hall _ (List.getElem_mem hlt))
              have e3 : (l ++ caps).getD i default = l.getD i default := by simp [List.getD, List.getElem?_append_left hlt]
              rw [e3]
              have e4 : ((as.map (Act.eval ⟨tmps, []⟩) ++ cv).toList).getD i undef = (as.toList.map (Act.eval ⟨tmps, []⟩)).getD i undef := by
                rw [Array.toList_append, Array.toList_map]
                simp only [List.getD]
                rw [List.getElem?_append_left (by simp; simp at e1; omega)]
              rw [e4]
              exact h3
            · have hge : l.length ≤ i := Nat.le_of_not_lt hlt
              have hi' : i - l.length < caps.length := by simp at hi; omega
              have e3 : (l ++ caps).getD i default = caps.getD (i - l.length) default := by simp [List.getD, List.getElem?_append_right hge]
              rw [e3]
              have e4 : ((as.map (Act.eval ⟨tmps, []⟩) ++ cv).toList).getD i undef = cv.getD (i - l.length) undef := by
                rw [Array.toList_append, Array.toList_map]
                simp only [List.getD]
                rw [List.getElem?_append_right (by simp; simp at e1; omega)]
                simp [Array.getD_eq_getD_getElem?, ← e1]
              rw [e4]
              exact hv _ hi'
      · cases hc
    · cases hc
  · cases hc
/-- Numbers are set aside. -/
theorem Rel.reserve (h : Rel B g blk E L σ tmps w) (n : Nat) (hob : ∀ i, g.nt ≤ i → σ.ob i = none) : Rel B { g with nt := g.nt + n } blk E L σ tmps w ∧ ∀ j, j < n → Free B { g with nt := g.nt + n } σ (g.nt + j) := by
  have hle : g.le { g with nt := g.nt + n } := ⟨fun _ c h => ⟨c, h, List.prefix_refl _⟩, fun _ _ h => h, fun _ _ h => h, Nat.le_add_right _ _⟩
  refine ⟨h.step hle ?_ ⟨rfl, rfl, rfl, Nat.le_refl _, fun _ _ _ => ⟨rfl, rfl⟩, fun _ _ h => h⟩ (fun _ _ => ⟨rfl, rfl⟩) (Old.refl _ _), fun j hj => ?_⟩
  · exact ⟨h.sh.vecs, fun i o ho => by
      obtain ⟨b, h1, h2, h3⟩ := h.sh.obs i o ho
      exact ⟨b, h1, h2.mono hle, h3⟩, h.sh.inj, h.sh.toks, h.sh.tinj, fun t ht => Nat.lt_of_lt_of_le (h.sh.live t ht) (Nat.le_add_right _ _), fun i hi => h.sh.fresh i (Nat.le_trans (Nat.le_add_right _ _) hi)⟩
  · have hf := h.sh.fresh (g.nt + j) (Nat.le_add_right _ _)
    exact ⟨Nat.le_trans h.ext.nt (Nat.le_add_right _ _), Nat.add_lt_add_left hj _, hf.1, hf.2, fun hm => absurd (h.sh.live _ hm) (by omega), hob _ (Nat.le_add_right _ _)⟩

theorem Free.moves {num n : Nat} (hf : Free B g σ n) (hm : Moves g g' σ σ' num) (hn : n ≠ num) : Free B g' σ' n :=
  ⟨hf.lo, by rw [hm.nt]; exact hf.hi, by rw [hm.sh n hn]; exact hf.sh, by rw [hm.tok n hn]; exact hf.tok, fun h => hf.live (hm.live n hn h), hm.ob n hn hf.ob⟩

theorem Free.post {n : Nat} (hf : Free B g σ n) (hp : Post g σ w g' σ' w') : Free B g' σ' n :=
  ⟨hf.lo, Nat.lt_of_lt_of_le hf.hi hp.le.nt, by rw [(hp.nums n hf.hi).1]; exact hf.sh, by rw [(hp.nums n hf.hi).2]; exact hf.tok, fun h => by
    rcases hp.old.live n h with h | h
    · exact hf.live h
    · have := hf.hi; omega, hp.old.ob n hf.ob hf.hi⟩

end

/-- A region in the order of the text: each operation is left out, or a step, or a call. -/
def Tr (P : Program) (esc : Nat → Bool) (dl : List (Option Tmp)) (base : Nat) (K : Env → Boxes → Sh → Prop) : List Oper → Nat → Env → Boxes → Sh → Prop
  | [], _, E, L, σ => K E L σ
  | o :: rest, i, E, L, σ =>
    (awant dl E o = some false ∧ Tr P esc dl base K rest (i + 1) (putE o.dst none E) L σ) ∨
    (awant dl E o = some true ∧
      ((∃ v L' σ', astep P esc (base + i) o E L σ = some (v, L', σ') ∧ Tr P esc dl base K rest (i + 1) (putE o.dst v E) L' σ') ∨
       (∃ f args R, acall o E = some (f, args) ∧ ACalls P f args σ R ∧ ∀ r σ', R r σ' → Tr P esc dl base K rest (i + 1) (putE o.dst (some r) E) L σ')))

/-- Nothing is known of numbers that were never given out. -/
def Dom (g : Gh) (σ : Sh) : Prop := ∀ i, g.nt ≤ i → σ.ob i = none

section
variable {P : Program} {B : Base} {g g' : Gh} {blk : Nat → Option Nat} {E : Env} {L : Boxes} {σ σ' : Sh} {tmps : Array Value} {w w' : World}

theorem ShRel.dom (h : ShRel g σ w) : Dom g σ := fun i hi => by
  cases ho : σ.ob i with
  | none => rfl
  | some o =>
    obtain ⟨b, h1, _⟩ := h.obs i o ho
    rw [(h.fresh i hi).1] at h1
    cases h1

theorem Rel.putE_skip (h : Rel B g blk E L σ tmps w) (d : Option Tmp) (hd : ∀ k, d = some k → k < B.n) : Rel B g blk (putE d none E) L σ ((⟨tmps, []⟩ : Act).put d undef).tmps w := by
  cases d with
  | none => exact h
  | some d => exact h.put (hd d rfl) (v := .tuple []) (VR.tuple [] #[] rfl fun i hi => absurd hi (by simp))

theorem Rel.putE_some (h : Rel B g blk E L σ tmps w) {d : Option Tmp} {v : AV} {x : Value} (hd : ∀ k, d = some k → k < B.n) (hv : SR g blk v x) : Rel B g blk (putE d (some v) E) L σ ((⟨tmps, []⟩ : Act).put d x).tmps w := by
  cases d with
  | none => exact h
  | some d => exact h.put (hd d rfl) hv

theorem put_defers (tmps : Array Value) (d : Option Tmp) (x : Value) : (⟨tmps, []⟩ : Act).put d x = ⟨((⟨tmps, []⟩ : Act).put d x).tmps, []⟩ := by cases d <;> rfl

/-- One operation, as the machine meets it. -/
theorem step_wp (h : Rel B g blk E L σ tmps w) {num : Nat} (hn : Free B g σ num) {esc : Nat → Bool} {o : Oper} {v : Option AV} {L' : Boxes} {σ' : Sh} (hd : ∀ k, o.dst = some k → k < B.n) (hs : astep P esc num o E L σ = some (v, L', σ'))
    {K : Act → World → Prop} {Q : Exit → Act → World → Prop} (hK : ∀ g' blk' tm w', Rel B g' blk' (putE o.dst v E) L' σ' tm w' → Moves g g' σ σ' num → K ⟨tm, []⟩ w') : o.wp P ⟨tmps, []⟩ w K Q := by
  obtain ⟨r, w', g', blk', h1, h2, h3, h4⟩ := astep_ok h hn hs
  unfold Oper.wp
  rw [h1]
  cases v with
  | some a =>
    obtain ⟨u, rfl, hu⟩ := h4
    simp only [Oper.upon]
    rw [put_defers]
    exact hK _ _ _ _ (h2.putE_some hd hu) h3
  | none =>
    obtain ⟨rfl, hdst⟩ := h4
    simp only [Oper.upon]
    rw [put_defers]
    rw [hdst] at hK ⊢
    exact hK _ _ _ _ h2 h3

theorem call_wp (h : Rel B g blk E L σ tmps w) {o : Oper} {f : FuncId} {args : List AV} {R : AV → Sh → Prop} (hd : ∀ k, o.dst = some k → k < B.n) (hc : acall o E = some (f, args)) (ha : ACalls P f args σ R)
    {K : Act → World → Prop} {Q : Exit → Act → World → Prop} (hK : ∀ r σ' g' tm w', R r σ' → Rel B g' blk (putE o.dst (some r) E) L σ' tm w' → Post g σ w g' σ' w' → K ⟨tm, []⟩ w') : o.wp P ⟨tmps, []⟩ w K Q := by
  obtain ⟨vs, h1, h2⟩ := acall_ok h hc ha.ent
  unfold Oper.wp
  rw [h1]
  simp only [Oper.upon]
  refine (ha.run g w vs h.sh h2).mono ?_
  rintro e w' ⟨r, σ', g', v, rfl, e2, e3, e4⟩
  show K ((⟨tmps, []⟩ : Act).put o.dst v) w'
  rw [put_defers]
  exact hK r σ' g' _ w' e4 ((h.post e3).putE_some hd e2.sr) e3

theorem tr_sound {esc : Nat → Bool} {ops : Array Oper} {base : Nat} {K : Env → Boxes → Sh → Prop} {Q : Exit → Act → World → Prop} (hQ : ∀ g blk E L σ tm w, Rel B g blk E L σ tm w → K E L σ → Q .normal ⟨tm, []⟩ w) :
    ∀ (l : List Oper) (i : Nat) (E : Env) (L : Boxes) (σ : Sh), Tr P esc (ops.toList.map (·.dst)) base K l i E L σ → ∀ g blk tmps w, Rel B g blk E L σ tmps w → (∀ j, i ≤ j → j < i + l.length → Free B g σ (base + j)) →
      (∀ o ∈ l, ∀ k, o.dst = some k → k < B.n) → wpList P ops Q l ⟨tmps, []⟩ w
  | [], i, E, L, σ, ht, g, blk, tmps, w, hr, _, _ => hQ g blk E L σ tmps w hr ht
  | o :: rest, i, E, L, σ, ht, g, blk, tmps, w, hr, hf, hd => by
    have hd0 := hd o (by simp)
    have hd1 : ∀ o' ∈ rest, ∀ k, o'.dst = some k → k < B.n := fun o' h' => hd o' (by simp [h'])
    simp only [Tr] at ht
    unfold wpList
    rcases ht with ⟨hw, ht⟩ | ⟨hw, ht⟩
    · rw [if_neg (by rw [awant_ok hr hw]; simp), put_defers]
      exact tr_sound hQ rest (i + 1) _ L σ ht g blk _ w (hr.putE_skip o.dst hd0) (fun j h1 h2 => hf j (by omega) (by simp; omega)) hd1
    · rw [if_pos (awant_ok hr hw)]
      left
      rcases ht with ⟨v, L', σ', hs, ht⟩ | ⟨f, args, R, hc, ha, ht⟩
      · refine step_wp hr (hf i (Nat.le_refl _) (by simp)) hd0 hs fun g' blk' tm w' hr' hm => ?_
        exact tr_sound hQ rest (i + 1) _ L' σ' ht g' blk' tm w' hr' (fun j h1 h2 => (hf j (by omega) (by simp; omega)).moves hm (by omega)) hd1
      · refine call_wp hr hd0 hc ha fun r σ' g' tm w' e1 hr' hp => ?_
        exact tr_sound hQ rest (i + 1) _ L σ' (ht r σ' e1) g' blk tm w' hr' (fun j h1 h2 => (hf j (by omega) (by simp; omega)).post hp) hd1

/-- A region in the order of the text. -/
theorem awp_region {id : Nat} {ops : List Oper} {esc : Nat → Bool} {Q : Exit → Env → Boxes → Sh → Prop} (hd : (ops.all fun o => o.dst.all fun k => decide (k < B.n)) = true) (h : ∀ base, B.g.nt ≤ base → (∀ t, t ∈ σ.live → t < base) → Tr P esc (ops.map (·.dst)) base (Q .normal) ops 0 E L σ) :
    awp P B (.region id ops.toArray false) Q E L σ := by
  intro g blk tmps w hr
  refine wp_region_lit ?_
  obtain ⟨h1, h2⟩ := hr.reserve ops.length hr.sh.dom
  refine tr_sound (fun g blk E L σ tm w hr hK => ⟨rfl, g, blk, E, L, σ, hr, hK⟩) ops 0 E L σ (h g.nt hr.ext.nt hr.sh.live) _ blk tmps w h1 (fun j _ hj => h2 j (by omega)) fun o ho k hk => ?_
  have := List.all_eq_true.1 hd o ho
  simpa [hk] using this
end
end Go.Am
namespace Go.Am
open Go

def argEnv : Nat → List AV → Env
  | _, [] => []
  | i, a :: as => (i, a) :: argEnv (i + 1) as

theorem argEnv_get : ∀ (as : List AV) (i s : Nat) (v : AV), (argEnv i as).get s = some v → i ≤ s ∧ s - i < as.length ∧ as.getD (s - i) default = v
  | [], i, s, v, h => by simp [argEnv, Env.get] at h
  | a :: as, i, s, v, h => by
    simp only [argEnv, Env.get] at h
    split at h
    · rename_i hs
      cases h
      subst hs
      simp
    · rename_i hs
      obtain ⟨h1, h2, h3⟩ := argEnv_get as (i + 1) s v h
      refine ⟨by omega, by simp; omega, ?_⟩
      rw [show s - i = (s - (i + 1)) + 1 by omega]
      simpa [List.getD] using h3

/-- What a function hands back. -/
def ares1 (P : Program) (E : Env) (L : Boxes) (σ : Sh) : ResultVar → Option AV
  | .tmp t => match E.get t with
    | some a => if a.free then some a else none
    | none => none
  | .cell a t => match E.get a with
    | some x => match acells L σ x with
      | some cs => aload P t cs
      | none => none
    | none => none
def aresL (P : Program) (E : Env) (L : Boxes) (σ : Sh) : List ResultVar → Option (List AV)
  | [] => some []
  | r :: rs => match ares1 P E L σ r, aresL P E L σ rs with
    | some a, some as => some (a :: as)
    | _, _ => none
def ares (P : Program) (rs : List ResultVar) (E : Env) (L : Boxes) (σ : Sh) : Option AV :=
  match aresL P E L σ rs with
  | some [a] => some a
  | some as => some (.tuple as)
  | none => none

section
variable {P : Program} {B : Base} {g g' : Gh} {blk : Nat → Option Nat} {E : Env} {L : Boxes} {σ σ' : Sh} {tmps : Array Value} {w w' : World}

def resSem (tmps : Array Value) : ResultVar → Sem Value
  | .tmp t => pure (tmps.getD t undef)
  | .cell a t => do loadVar t (← asAddr (tmps.getD a undef))

theorem ares1_ok (h : Rel B g blk E L σ tmps w) {r : ResultVar} {a : AV} (hr : ares1 P E L σ r = some a) : ∃ v, (resSem tmps r).run P w = .ok v w ∧ VR g a v := by
  cases r with
  | tmp t =>
    simp only [ares1] at hr
    split at hr
    · rename_i x hx
      split at hr
      · rename_i hf
        cases hr
        obtain ⟨u, h1, h2⟩ := h.slots t _ hx
        exact ⟨u, by simp [resSem, h1], h2.vr hf⟩
      · cases hr
    · cases hr
  | cell c t =>
    simp only [ares1] at hr
    split at hr
    · rename_i x hx
      split at hr
      · rename_i cs hcs
        obtain ⟨u, h1, h2⟩ := h.slots c _ hx
        obtain ⟨b, off, rfl, h3⟩ := acells_ok h hcs h2
        obtain ⟨v, h4, h5⟩ := loadVar_ok (P := P) (w := w) h3 hr
        exact ⟨v, by simp [resSem, h1, asAddr, h4], h5⟩
      · cases hr
    · cases hr

theorem aresL_ok (h : Rel B g blk E L σ tmps w) : ∀ {rs : List ResultVar} {as : List AV}, aresL P E L σ rs = some as → ∃ vs : List Value, (rs.mapM (resSem tmps)).run P w = .ok vs w ∧ AreVR g as vs
  | [], as, hr => by cases hr; exact ⟨[], rfl, rfl, fun i hi => by simp at hi⟩
  | r :: rs, as, hr => by
    simp only [aresL] at hr
    split at hr
    · rename_i a l h1 h2
      cases hr
      obtain ⟨v, e1, e2⟩ := ares1_ok h h1
      obtain ⟨vs, e3, e4⟩ := aresL_ok h h2
      refine ⟨v :: vs, by simp [List.mapM_cons, e1, e3], by simp [e4.1], fun i hi => ?_⟩
      cases i with
      | zero => exact e2
      | succ i => simpa using e4.2 i (by simpa using hi)
    · cases hr

theorem ares_ok (h : Rel B g blk E L σ tmps w) {fn : Func} {a : AV} (hr : ares P fn.results.toList E L σ = some a) : ∃ v, (results fn tmps).run P w = .ok v w ∧ VR g a v := by
  have hres : (results fn tmps).run P w = ((fn.results.toList.mapM (resSem tmps)).run P w).andThen fun vs w' => .ok (if h : vs.length = 1 then vs[0] else .tuple vs.toArray) w' := by
    have e : results fn tmps = (do let vs ← fn.results.mapM (resSem tmps); pure (if h : vs.size = 1 then vs[0] else .tuple vs)) := by
      unfold results
      congr 1
    rw [e, Array.mapM_eq_mapM_toList]
    simp only [Sem.run_bind, Sem.run_map]
    cases (fn.results.toList.mapM (resSem tmps)).run P w with
    | ok vs w' => simp
    | halt x w' => rfl
  simp only [ares] at hr
  split at hr
  · rename_i a' ha
    cases hr
    obtain ⟨vs, e1, e2⟩ := aresL_ok h ha
    match vs, e2 with
    | [v], e2 => exact ⟨v, by rw [hres, e1]; rfl, e2.2 0 (by simp)⟩
    | [], e2 => exact absurd e2.1 (by simp)
    | _ :: _ :: _, e2 => exact absurd e2.1 (by simp)
  · rename_i as hne ha
    cases hr
    obtain ⟨vs, e1, e2⟩ := aresL_ok h ha
    refine ⟨.tuple vs.toArray, ?_, .tuple _ _ (by simpa using e2.1) fun i hi => by simpa [Array.getD_eq_getD_getElem?, List.getD] using e2.2 i hi⟩
    rw [hres, e1]
    have : ¬ vs.length = 1 := fun h1 => by
      rw [e2.1] at h1
      match as, h1 with
      | [x], _ => exact hne x rfl
    simp [this]
  · cases hr

/-- What must hold where a function's body ends. -/
def Ends (P : Program) (rs : List ResultVar) (R : AV → Sh → Prop) : Exit → Env → Boxes → Sh → Prop
  | .normal, E, L, σ | .ret, E, L, σ => ∃ r σ', ares P rs E L σ = some r ∧ (∀ i o, σ'.ob i = some o → σ.ob i = some o) ∧ (∀ t, t ∈ σ'.live → t ∈ σ.live) ∧ R r σ'
  | _, _, _, _ => False

theorem acalls_of_awp {f : FuncId} {fn : Func} {c : Code} {args : List AV} {R : AV → Sh → Prop} (hf : P.funcs[f]? = some fn) (hb : fn.body = some c) (hname : fn.name ≠ "runtime.NumGoroutine") (hn : args.length ≤ fn.ntmps)
    (h : ∀ B : Base, B.n = fn.ntmps → B.σ = σ → (∀ t, t ∈ σ.live → t < B.g.nt) → (∀ n, B.g.nt ≤ n → σ.ob n = none) → awp P B c (Ends P fn.results.toList R) (argEnv 0 args) [] σ) : ACalls P f args σ R where
  ent a w := by
    simp [callFunc, hf, hb]
    intro h0
    exact absurd h0 hname
  run g w vs hs hv := by
    refine calls_of_wp hf hb ?_
    have hsz : vs.size = args.length := by simpa using hv.1
    have hrel : Rel ⟨g, σ, w, fn.ntmps⟩ g (fun _ => none) (argEnv 0 args) [] σ (vs ++ Array.replicate (fn.ntmps - vs.size) undef) w := by
      refine ⟨by simp; omega, fun s v hsv => ?_, fun k cs hk => by simp [Boxes.get] at hk, fun k _ _ _ _ hk => by simp [Boxes.get] at hk, hs, Gh.le.refl g, Nums.refl _ _, FrameC.refl _ _ _, Old.refl _ _⟩
      obtain ⟨h1, h2, h3⟩ := argEnv_get args 0 s v hsv
      have h4 := hv.2 s (by simpa using h2)
      simp only [Nat.sub_zero] at h3 h2
      rw [h3] at h4
      refine ⟨vs.toList.getD s undef, ?_, h4.sr⟩
      rw [Array.getElem?_append_left (by omega)]
      have : s < vs.size := by omega
      simp [List.getD, this]
    refine wp_mono (h ⟨g, σ, w, fn.ntmps⟩ rfl rfl hs.live hs.dom g _ _ w hrel) ?_
    rintro e a w' ⟨hd, g', blk', E', L', σ', hr', q⟩
    have fin : (∃ r σ'', ares P fn.results.toList E' L' σ' = some r ∧ (∀ i o, σ''.ob i = some o → σ'.ob i = some o) ∧ (∀ t, t ∈ σ''.live → t ∈ σ'.live) ∧ R r σ'') →
        a.defers = [] ∧ ∃ v, (results fn a.tmps).run P w' = .ok v w' ∧ ∃ r σ' g' v', Ending.returned v = .returned v' ∧ VR g' r v' ∧ Post g σ w g' σ' w' ∧ R r σ' := by
      rintro ⟨r, σ'', h1, h2, h3, h4⟩
      obtain ⟨v, e1, e2⟩ := ares_ok hr' h1
      have h5 := hr'.forget h2 h3
      exact ⟨hd, v, e1, r, σ'', g', v, rfl, e2, ⟨h5.sh, h5.ext, h5.nums, h5.frame, h5.old⟩, h4⟩
    cases e with
    | normal => exact fin q
    | ret => exact fin q
    | exit id => exact q.elim
    | goto l => exact q.elim
    | panic ch => exact q.elim
    | outgrown => exact q.elim
end
end Go.Am
namespace Go.Am
open Go

structure RS where
  l : List Oper
  i : Nat
  E : Env
  L : Boxes
  σ : Sh

/-- As far as it goes without a call. -/
noncomputable def trun (P : Program) (esc : Nat → Bool) (dl : List (Option Tmp)) (base : Nat) : List Oper → Nat → Env → Boxes → Sh → RS
  | [], i, E, L, σ => ⟨[], i, E, L, σ⟩
  | o :: rest, i, E, L, σ =>
    match awant dl E o with
    | some false => trun P esc dl base rest (i + 1) (putE o.dst none E) L σ
    | some true => match astep P esc (base + i) o E L σ with
      | some (v, L', σ') => trun P esc dl base rest (i + 1) (putE o.dst v E) L' σ'
      | none => ⟨o :: rest, i, E, L, σ⟩
    | none => ⟨o :: rest, i, E, L, σ⟩

def TrS (P : Program) (esc : Nat → Bool) (dl : List (Option Tmp)) (base : Nat) (K : Env → Boxes → Sh → Prop) (s : RS) : Prop := Tr P esc dl base K s.l s.i s.E s.L s.σ

section
variable {P : Program} {esc : Nat → Bool} {dl : List (Option Tmp)} {base : Nat} {K : Env → Boxes → Sh → Prop}

theorem tr_run : ∀ {l : List Oper} {i : Nat} {E : Env} {L : Boxes} {σ : Sh}, TrS P esc dl base K (trun P esc dl base l i E L σ) → Tr P esc dl base K l i E L σ
  | [], i, E, L, σ, h => h
  | o :: rest, i, E, L, σ, h => by
    unfold trun at h
    split at h
    · rename_i hw
      exact .inl ⟨hw, tr_run h⟩
    · rename_i hw
      split at h
      · rename_i v L' σ' hs
        exact .inr ⟨hw, .inl ⟨v, L', σ', hs, tr_run h⟩⟩
      · exact h
    · exact h

theorem tr_nil {i : Nat} {E : Env} {L : Boxes} {σ : Sh} (h : K E L σ) : TrS P esc dl base K ⟨[], i, E, L, σ⟩ := h

/-- A call that leaves what is shared alone. -/
theorem tr_pcall {o : Oper} {rest : List Oper} {i : Nat} {E : Env} {L : Boxes} {σ : Sh} {f : FuncId} {args : List AV} {r : AV} (hp : PCalls P f args r) (hw : awant dl E o = some true) (hc : acall o E = some (f, args))
    (h : TrS P esc dl base K (trun P esc dl base rest (i + 1) (putE o.dst (some r) E) L σ)) : TrS P esc dl base K ⟨o :: rest, i, E, L, σ⟩ :=
  .inr ⟨hw, .inr ⟨f, args, _, hc, hp σ, by rintro r' σ' ⟨rfl, rfl⟩; exact tr_run h⟩⟩

theorem tr_acall {o : Oper} {rest : List Oper} {i : Nat} {E : Env} {L : Boxes} {σ : Sh} {f : FuncId} {args : List AV} {R : AV → Sh → Prop} (hp : ACalls P f args σ R) (hw : awant dl E o = some true) (hc : acall o E = some (f, args))
    (h : ∀ r σ', R r σ' → TrS P esc dl base K (trun P esc dl base rest (i + 1) (putE o.dst (some r) E) L σ')) : TrS P esc dl base K ⟨o :: rest, i, E, L, σ⟩ :=
  .inr ⟨hw, .inr ⟨f, args, R, hc, hp, fun r σ' hr => tr_run (h r σ' hr)⟩⟩

end
end Go.Am
namespace Go.Am
open Go

inductive Touch where
  | none | read | write
  deriving DecidableEq, Inhabited

/-- Whether an operation reads, or turns, what lies in memory. -/
def touchOf (pureF : FuncId → Bool) (o : Oper) : Touch :=
  match o.op with
  | .load _ _ => .read
  | .alloc _ | .box _ _ | .store _ _ _ => .write
  | .call { callee := .builtin .append, .. } => .write
  | .call { callee := .builtin _, .. } => .none
  | .call { callee := .value (.func f), .. } => if pureF f then .none else .write
  | .call _ => .write
  | .mapUpdate _ _ _ _ | .lookup _ _ _ _ | .makeMap _ _ | .makeSlice _ _ _ => .write
  | _ => .none

/-- Boxes of the frame's own are not made where the order is drawn. -/
def drawOk (esc : Nat → Bool) (o : Oper) : Bool :=
  match o.op with
  | .alloc _ | .box _ _ => o.dst.all esc
  | _ => true

theorem looks_congr {ρ ρ' : Operand → Option AV} : ∀ {l : List Operand}, (∀ x ∈ l, ρ' x = ρ x) → looks ρ' l = looks ρ l
  | [], _ => rfl
  | x :: l, h => by simp only [looks, h x (by simp), looks_congr (fun y hy => h y (List.mem_cons_of_mem _ hy))]
theorem lookp_congr {ρ ρ' : Operand → Option AV} : ∀ {l : List (Nat × Operand)}, (∀ x ∈ l, ρ' x.2 = ρ x.2) → lookp ρ' l = lookp ρ l
  | [], _ => rfl
  | (i, x) :: l, h => by simp only [lookp, h (i, x) (by simp), lookp_congr (fun y hy => h y (List.mem_cons_of_mem _ hy))]

section
variable {P : Program}

theorem aq_congr {op : Go.Op} {ρ ρ' : Operand → Option AV} {L : Boxes} {σ : Sh} (h : ∀ x ∈ op.operands.toList, ρ' x = ρ x) : aq P op ρ' L σ = aq P op ρ L σ := by
  cases op
  case build t ps =>
    simp only [aq]
    rw [lookp_congr (ρ := ρ) (ρ' := ρ') (l := ps.toList) (fun x hx => h _ (by simp [Op.operands]; exact ⟨x.1, by simpa using hx⟩))]
  case makeFunc fn first cap =>
    simp only [aq, apure]
    rw [looks_congr (ρ := ρ) (ρ' := ρ') (l := cap.toList) (fun x hx => h _ (by simp [Op.operands]; right; simpa using hx))]
  case slice t x lo hi mx =>
    simp only [aq, apure]
    have hx := h x (by simp [Op.operands])
    have e : ∀ y : Option Operand, (∀ z, y = some z → ρ' z = ρ z) → (y.elim (some none) fun x => (ρ' x).map some) = (y.elim (some none) fun x => (ρ x).map some) := fun y hy => by
      cases y with
      | none => rfl
      | some z => simp [hy z rfl]
    rw [hx, e lo (fun z hz => h z (by simp [Op.operands, hz])), e hi (fun z hz => h z (by simp [Op.operands, hz])), e mx (fun z hz => h z (by simp [Op.operands, hz]))]
  case call c =>
    obtain ⟨callee, args, tys⟩ := c
    cases callee with
    | builtin b =>
      simp only [aq, apure]
      obtain ⟨args⟩ := args
      obtain ⟨tys⟩ := tys
      match args with
      | [] => cases b <;> rfl
      | [x] =>
        have hx := h x (by simp [Op.operands, Call.operands])
        cases b <;> cases tys <;> simp only [hx]
      | [x, y] =>
        have hx := h x (by simp [Op.operands, Call.operands])
        have hy := h y (by simp [Op.operands, Call.operands])
        cases b <;> simp only [hx, hy]
      | _ :: _ :: _ :: _ => cases b <;> rfl
    | _ => rfl
  all_goals first
    | rfl
    | (simp only [aq, apure]
       simp [Op.operands] at h
       simp [h]
       done)

theorem aq_pure {op : Go.Op} {ρ : Operand → Option AV} {L L' : Boxes} {σ σ' : Sh} (h : ∀ t x, op ≠ .load t x) : aq P op ρ L' σ' = aq P op ρ L σ := by
  cases op
  case load t x => exact absurd rfl (h t x)
  case call c =>
    obtain ⟨callee, args, tys⟩ := c
    cases callee <;> rfl
  all_goals rfl

theorem aeff_congr {esc : Nat → Bool} {num : Nat} {o : Oper} {E E' : Env} {L : Boxes} {σ : Sh} (hd : drawOk esc o = true) (h : ∀ x ∈ o.op.operands.toList, look E' x = look E x) :
    aeff P esc num o E' L σ = aeff P esc num o E L σ := by
  obtain ⟨dst, op, ty, pos, after, guard⟩ := o
  simp only at h
  unfold aeff
  cases op
  case alloc e =>
    simp only [drawOk] at hd
    cases dst with
    | none => rfl
    | some k =>
      have hd' : esc k = true := hd
      dsimp only
      split
      · rename_i k' cs h1 h2
        cases h1
        rw [if_pos hd', if_pos hd']
      · rfl
  case box e x =>
    simp only [drawOk] at hd
    have hx := h x (by simp [Op.operands])
    cases dst with
    | none => rfl
    | some k =>
      simp only [Option.all_some] at hd
      simp only [hx]
      generalize look E x = z
      cases z with
      | none => rfl
      | some z =>
        simp only
        generalize acellsOf P e z = u
        cases u <;> simp [hd]
  case buildSlice t n ps =>
    simp only
    rw [lookp_congr (ρ := look E) (ρ' := look E') (l := ps.toList) (fun x hx => h _ (by simp [Op.operands]; exact ⟨x.1, by simpa using hx⟩))]
  case store t a x =>
    simp only [h a (by simp [Op.operands]), h x (by simp [Op.operands])]
  case makeSlice t l c =>
    simp only [h l (by simp [Op.operands]), h c (by simp [Op.operands])]
  case call c =>
    obtain ⟨callee, args, tys⟩ := c
    cases callee with
    | builtin b =>
      cases b
      case append =>
        simp only
        obtain ⟨args⟩ := args
        obtain ⟨tys⟩ := tys
        match args, tys with
        | [], _ => rfl
        | [x], _ => rfl
        | [x, y], [t, t'] =>
          have hx := h x (by simp [Op.operands, Call.operands])
          have hy := h y (by simp [Op.operands, Call.operands])
          simp only [hx, hy]
        | [x, y], [] => rfl
        | [x, y], [_] => rfl
        | [x, y], _ :: _ :: _ :: _ => rfl
        | _ :: _ :: _ :: _, _ => rfl
      all_goals rfl
    | _ => rfl
  all_goals rfl

theorem astep_congr {esc : Nat → Bool} {num : Nat} {o : Oper} {E E' : Env} {L : Boxes} {σ : Sh} (hd : drawOk esc o = true) (h : ∀ x ∈ o.op.operands.toList, look E' x = look E x) :
    astep P esc num o E' L σ = astep P esc num o E L σ := by
  unfold astep
  rw [aq_congr h, aeff_congr hd h]

/-- A step that does not touch what lies in memory. -/
theorem astep_none {pureF : FuncId → Bool} {esc : Nat → Bool} {num : Nat} {o : Oper} {E : Env} {L L' L1 : Boxes} {σ σ' σ1 : Sh} {v : Option AV} (ht : touchOf pureF o = .none) (h : astep P esc num o E L σ = some (v, L1, σ1)) :
    (L1 = L ∧ σ1 = σ) ∧ astep P esc num o E L' σ' = some (v, L', σ') := by
  obtain ⟨dst, op, ty, pos, after, guard⟩ := o
  have hl : ∀ t x, op ≠ .load t x := fun t x e => by subst e; simp [touchOf] at ht
  unfold astep at h ⊢
  rw [aq_pure (L := L) (σ := σ) (L' := L') (σ' := σ') hl]
  split at h
  · rename_i v' hv
    cases h
    simp [hv]
  · rename_i hv
    simp only [hv]
    unfold aeff at h ⊢
    cases op <;> simp only [touchOf] at ht <;> first | (cases ht; done) | skip
    case buildSlice t n ps =>
      simp only at h ⊢
      split at h
      · split at h
        · split at h
          · rename_i hc
            cases h
            simp_all
            exact hc.2.2.2
          · cases h
        · cases h
      · cases h
    case call c =>
      obtain ⟨callee, args, tys⟩ := c
      cases callee with
      | builtin b => cases b <;> simp at h ht
      | _ => simp at h
    all_goals (simp at h; done)

/-- A step that only reads. -/
theorem astep_read {pureF : FuncId → Bool} {esc : Nat → Bool} {num : Nat} {o : Oper} {E : Env} {L L1 : Boxes} {σ σ1 : Sh} {v : Option AV} (ht : touchOf pureF o = .read) (h : astep P esc num o E L σ = some (v, L1, σ1)) : L1 = L ∧ σ1 = σ := by
  obtain ⟨dst, op, ty, pos, after, guard⟩ := o
  unfold astep at h
  cases hq : aq P op (look E) L σ with
  | some v' =>
    simp only [hq] at h
    cases h
    exact ⟨rfl, rfl⟩
  | none =>
    simp only [hq] at h
    unfold aeff at h
    cases op <;> simp only [touchOf] at ht <;> first | (cases ht; done) | skip
    case call c =>
      obtain ⟨callee, args, tys⟩ := c
      cases callee with
      | builtin b => cases b <;> simp at ht
      | value x => cases x <;> simp at ht <;> (split at ht <;> cases ht)
      | _ => simp at ht
    all_goals (simp at h; done)
end
end Go.Am
namespace Go.Am
open Go

structure Rec where
  v : Option AV
  L : Boxes
  σ : Sh

/-- What is known of one operation in the text's order: the state ahead of it, and what it leaves. -/
inductive Fact (P : Program) (esc : Nat → Bool) (pureF : FuncId → Bool) (dl : List (Option Tmp)) (num : Nat) (o : Oper) (E : Env) (L : Boxes) (σ : Sh) : Rec → Prop
  | skip (hw : awant dl E o = some false) : Fact P esc pureF dl num o E L σ ⟨none, L, σ⟩
  | step (hw : awant dl E o = some true) (hd : drawOk esc o = true) {v : Option AV} {L' : Boxes} {σ' : Sh} (hs : astep P esc num o E L σ = some (v, L', σ')) : Fact P esc pureF dl num o E L σ ⟨v, L', σ'⟩
  | pcall (hw : awant dl E o = some true) (ht : touchOf pureF o = .none) {f : FuncId} {args : List AV} {r : AV} (hc : acall o E = some (f, args)) (hp : PCalls P f args r) : Fact P esc pureF dl num o E L σ ⟨some r, L, σ⟩
  | acall (hw : awant dl E o = some true) (ht : touchOf pureF o = .write) {f : FuncId} {args : List AV} {r : AV} {σ₁ : Sh} (hc : acall o E = some (f, args)) (hp : ACalls P f args σ fun r' σ' => r' = r ∧ σ' = σ₁) :
      Fact P esc pureF dl num o E L σ ⟨some r, L, σ₁⟩

/-- The operations in the order of the text, the order being drawn. -/
def TrD (P : Program) (esc : Nat → Bool) (pureF : FuncId → Bool) (dl : List (Option Tmp)) (base : Nat) (K : Env → Boxes → Sh → Prop) : List Oper → Nat → Env → Boxes → Sh → Prop
  | [], _, E, L, σ => K E L σ
  | o :: rest, i, E, L, σ => ∃ r, Fact P esc pureF dl (base + i) o E L σ r ∧ TrD P esc pureF dl base K rest (i + 1) (putE o.dst r.v E) r.L r.σ

def selE (S : Nat → Bool) : List Oper → List Rec → Nat → Env → Env
  | o :: l, r :: tr, i, E => selE S l tr (i + 1) (if S i then putE o.dst r.v E else E)
  | _, _, _, E => E
def selH (pureF : FuncId → Bool) (S : Nat → Bool) : List Oper → List Rec → Nat → Boxes × Sh → Boxes × Sh
  | o :: l, r :: tr, i, H => selH pureF S l tr (i + 1) (if S i && touchOf pureF o == .write then (r.L, r.σ) else H)
  | _, _, _, H => H

theorem selE_none {S : Nat → Bool} : ∀ {l : List Oper} {tr : List Rec} {i : Nat} {E : Env}, (∀ j, i ≤ j → S j = false) → selE S l tr i E = E
  | [], _, _, _, _ => rfl
  | _ :: _, [], _, _, _ => rfl
  | o :: l, r :: tr, i, E, h => by simp only [selE, h i (Nat.le_refl _), Bool.false_eq_true, if_false]; exact selE_none fun j hj => h j (by omega)
theorem selH_none {pureF : FuncId → Bool} {S : Nat → Bool} : ∀ {l : List Oper} {tr : List Rec} {i : Nat} {H : Boxes × Sh}, (∀ j, i ≤ j → S j = false) → selH pureF S l tr i H = H
  | [], _, _, _, _ => rfl
  | _ :: _, [], _, _, _ => rfl
  | o :: l, r :: tr, i, H, h => by simp only [selH, h i (Nat.le_refl _), Bool.false_and, Bool.false_eq_true, if_false]; exact selH_none fun j hj => h j (by omega)

theorem putE_get (d : Option Tmp) (v : Option AV) (E : Env) (s : Nat) : (putE d v E).get s = if d = some s then some (v.getD (.tuple [])) else E.get s := by
  cases d with
  | none => simp [putE]
  | some d =>
    cases v with
    | none => simp only [putE, Env.get, Option.some.injEq, eq_comm, Option.getD_none]
    | some v => simp only [putE, Env.get, Option.some.injEq, eq_comm, Option.getD_some]

theorem selE_agree {S S' : Nat → Bool} {s : Nat} : ∀ {l : List Oper} {tr : List Rec} {i : Nat} {E E' : Env}, E.get s = E'.get s → (∀ k o, l[k]? = some o → o.dst = some s → S (i + k) = S' (i + k)) → (selE S l tr i E).get s = (selE S' l tr i E').get s
  | [], _, _, _, _, h, _ => h
  | _ :: _, [], _, _, _, h, _ => h
  | o :: l, r :: tr, i, E, E', h, hS => by
    simp only [selE]
    refine selE_agree ?_ fun k o' h1 h2 => by have := hS (k + 1) o' (by simpa using h1) h2; rw [show i + 1 + k = i + (k + 1) by omega]; exact this
    by_cases hd : o.dst = some s
    · have := hS 0 o rfl hd
      simp only [Nat.add_zero] at this
      rw [this]
      split
      · simp [putE_get, hd]
      · exact h
    · have e : ∀ (b : Bool) (F : Env), (if b then putE o.dst r.v F else F).get s = F.get s := fun b F => by
        cases b <;> simp [putE_get, hd]
      rw [e, e]
      exact h

theorem selE_late {S : Nat → Bool} {d : Option Tmp} {v : Option AV} {s : Nat} : ∀ {l : List Oper} {tr : List Rec} {i : Nat} {E : Env}, (∀ k o x, l[k]? = some o → S (i + k) = true → d = some x → o.dst ≠ some x) →
    (selE S l tr i (putE d v E)).get s = (putE d v (selE S l tr i E)).get s
  | [], _, _, _, _ => by simp [selE]
  | _ :: _, [], _, _, _ => by simp [selE]
  | o :: l, r :: tr, i, E, h => by
    simp only [selE]
    rw [← selE_late (fun k o' x h1 h2 h3 => h (k + 1) o' x (by simpa using h1) (by rw [show i + (k + 1) = i + 1 + k by omega]; exact h2) h3)]
    refine selE_agree ?_ fun _ _ _ _ => rfl
    split
    · rename_i hs
      simp only [putE_get]
      by_cases h1 : o.dst = some s
      · by_cases h2 : d = some s
        · exact absurd h1 (h 0 o s rfl (by simpa using hs) h2)
        · simp [h1, h2]
      · by_cases h2 : d = some s <;> simp [h1, h2]
    · rfl

def addS (S : Nat → Bool) (m : Nat) : Nat → Bool := fun j => j == m || S j

theorem selE_add {S : Nat → Bool} {s : Nat} : ∀ {l : List Oper} {tr : List Rec} {i k0 : Nat} {E : Env} {o : Oper} {r : Rec}, l[k0]? = some o → tr[k0]? = some r → S (i + k0) = false →
    (∀ k o' x, l[k]? = some o' → k0 < k → S (i + k) = true → o.dst = some x → o'.dst ≠ some x) → (selE (addS S (i + k0)) l tr i E).get s = (putE o.dst r.v (selE S l tr i E)).get s
  | [], _, _, _, _, _, _, h, _, _, _ => by simp at h
  | _ :: _, [], _, _, _, _, _, _, h, _, _ => by simp at h
  | o' :: l, r' :: tr, i, k0, E, o, r, h1, h2, h3, h4 => by
    cases k0 with
    | zero =>
      cases h1
      cases h2
      simp only [Nat.add_zero] at h3 ⊢
      have e : addS S i i = true := by simp [addS]
      simp only [selE, e, h3, if_true, Bool.false_eq_true, if_false]
      rw [← selE_late (fun k o'' x g1 g2 g3 => h4 (k + 1) o'' x (by simpa using g1) (by omega) (by rw [show i + (k + 1) = i + 1 + k by omega]; exact g2) g3)]
      exact selE_agree rfl fun k _ _ _ => by
        have : (i + 1 + k == i) = false := by simp; omega
        simp [addS, this]
    | succ k0 =>
      simp only [selE]
      have e : addS S (i + (k0 + 1)) i = S i := by
        have : (i == i + (k0 + 1)) = false := by simp
        simp [addS, this]
      rw [e, show i + (k0 + 1) = i + 1 + k0 by omega]
      exact selE_add (by simpa using h1) (by simpa using h2) (by rw [show i + 1 + k0 = i + (k0 + 1) by omega]; exact h3)
        fun k o'' x g1 g2 g3 g4 => h4 (k + 1) o'' x (by simpa using g1) (by omega) (by rw [show i + (k + 1) = i + 1 + k by omega]; exact g3) g4

theorem selH_agree {pureF : FuncId → Bool} {S S' : Nat → Bool} : ∀ {l : List Oper} {tr : List Rec} {i : Nat} {H : Boxes × Sh}, (∀ k o, l[k]? = some o → touchOf pureF o = .write → S (i + k) = S' (i + k)) → selH pureF S l tr i H = selH pureF S' l tr i H
  | [], _, _, _, _ => rfl
  | _ :: _, [], _, _, _ => rfl
  | o :: l, r :: tr, i, H, h => by
    simp only [selH]
    have e : (S i && touchOf pureF o == .write) = (S' i && touchOf pureF o == .write) := by
      by_cases ht : touchOf pureF o = .write
      · have := h 0 o rfl ht
        simp only [Nat.add_zero] at this
        rw [this]
      · have : (touchOf pureF o == .write) = false := by simpa using ht
        simp [this]
    rw [e]
    exact selH_agree fun k o' h1 h2 => by have := h (k + 1) o' (by simpa using h1) h2; rw [show i + 1 + k = i + (k + 1) by omega]; exact this

theorem selH_add {pureF : FuncId → Bool} {S : Nat → Bool} : ∀ {l : List Oper} {tr : List Rec} {i k0 : Nat} {H : Boxes × Sh} {o : Oper} {r : Rec}, l[k0]? = some o → tr[k0]? = some r → S (i + k0) = false →
    (∀ k o', l[k]? = some o' → k0 < k → touchOf pureF o = .write → touchOf pureF o' = .write → S (i + k) = false) →
    selH pureF (addS S (i + k0)) l tr i H = if touchOf pureF o = .write then (r.L, r.σ) else selH pureF S l tr i H
  | [], _, _, _, _, _, _, h, _, _, _ => by simp at h
  | _ :: _, [], _, _, _, _, _, _, h, _, _ => by simp at h
  | o' :: l, r' :: tr, i, k0, H, o, r, h1, h2, h3, h4 => by
    cases k0 with
    | zero =>
      cases h1
      cases h2
      simp only [Nat.add_zero] at h3 ⊢
      have e : addS S i i = true := by simp [addS]
      simp only [selH, e, h3, Bool.true_and, Bool.false_and, Bool.false_eq_true, if_false, beq_iff_eq]
      have e2 : ∀ H, selH pureF (addS S i) l tr (i + 1) H = selH pureF S l tr (i + 1) H := fun H => selH_agree fun k _ _ _ => by
        have : (i + 1 + k == i) = false := by simp; omega
        simp [addS, this]
      rw [e2]
      split
      · rename_i ht
        have : ∀ H, selH pureF S l tr (i + 1) H = selH pureF (fun _ => false) l tr (i + 1) H := fun H => selH_agree fun k o'' g1 g2 => by
          have := h4 (k + 1) o'' (by simpa using g1) (by omega) ht g2
          rw [show i + 1 + k = i + (k + 1) by omega]
          exact this
        rw [this]
        exact selH_none fun _ _ => rfl
      · rfl
    | succ k0 =>
      simp only [selH]
      have e : addS S (i + (k0 + 1)) i = S i := by
        have : (i == i + (k0 + 1)) = false := by simp
        simp [addS, this]
      rw [e, show i + (k0 + 1) = i + 1 + k0 by omega]
      exact selH_add (by simpa using h1) (by simpa using h2) (by rw [show i + 1 + k0 = i + (k0 + 1) by omega]; exact h3)
        fun k o'' g1 g2 g3 g4 => by rw [show i + 1 + k = i + (k + 1) by omega]; exact h4 (k + 1) o'' (by simpa using g1) (by omega) g3 g4

section
variable {P : Program} {esc : Nat → Bool} {pureF : FuncId → Bool} {dl : List (Option Tmp)} {base : Nat}

/-- What the text's order leaves: each operation's fact, at the state made of those ahead of it. -/
structure Plan (P : Program) (esc : Nat → Bool) (pureF : FuncId → Bool) (dl : List (Option Tmp)) (base : Nat) (l : List Oper) (i : Nat) (E : Env) (L : Boxes) (σ : Sh) (tr : List Rec) : Prop where
  len : tr.length = l.length
  at_ : ∀ k o, l[k]? = some o → ∃ r, tr[k]? = some r ∧
    Fact P esc pureF dl (base + (i + k)) o (selE (fun j => decide (j < i + k)) l tr i E) (selH pureF (fun j => decide (j < i + k)) l tr i (L, σ)).1 (selH pureF (fun j => decide (j < i + k)) l tr i (L, σ)).2 r

theorem Fact.keeps {num : Nat} {o : Oper} {E : Env} {L : Boxes} {σ : Sh} {r : Rec} (h : Fact P esc pureF dl num o E L σ r) : (if touchOf pureF o = .write then (r.L, r.σ) else (L, σ)) = (r.L, r.σ) := by
  cases h with
  | skip hw => split <;> rfl
  | step hw hd hs =>
    split
    · rfl
    · rename_i ht
      cases ht' : touchOf pureF o with
      | none => obtain ⟨⟨rfl, rfl⟩, _⟩ := astep_none (L' := L) (σ' := σ) ht' hs; rfl
      | read => obtain ⟨rfl, rfl⟩ := astep_read ht' hs; rfl
      | write => exact absurd ht' ht
  | pcall => split <;> rfl
  | acall hw ht => rw [if_pos ht]

theorem trd_plan {K : Env → Boxes → Sh → Prop} : ∀ {l : List Oper} {i : Nat} {E : Env} {L : Boxes} {σ : Sh}, TrD P esc pureF dl base K l i E L σ →
    ∃ tr, Plan P esc pureF dl base l i E L σ tr ∧ K (selE (fun _ => true) l tr i E) (selH pureF (fun _ => true) l tr i (L, σ)).1 (selH pureF (fun _ => true) l tr i (L, σ)).2
  | [], i, E, L, σ, h => ⟨[], ⟨rfl, fun k o hk => by simp at hk⟩, h⟩
  | o :: rest, i, E, L, σ, ⟨r, hf, h⟩ => by
    obtain ⟨tr, hp, hK⟩ := trd_plan h
    have hk := hf.keeps
    have hsel : ∀ S : Nat → Bool, S i = true → selH pureF S (o :: rest) (r :: tr) i (L, σ) = selH pureF S rest tr (i + 1) (r.L, r.σ) := fun S hS => by
      simp only [selH, hS, Bool.true_and, beq_iff_eq]
      rw [hk]
    refine ⟨r :: tr, ⟨by simp [hp.len], fun k o' hk' => ?_⟩, ?_⟩
    · cases k with
      | zero =>
        cases hk'
        refine ⟨r, rfl, ?_⟩
        rw [selE_none (fun j hj => by simp; omega), selH_none (fun j hj => by simp; omega)]
        exact hf
      | succ k =>
        obtain ⟨r', e1, e2⟩ := hp.at_ k o' (by simpa using hk')
        refine ⟨r', by simpa using e1, ?_⟩
        rw [hsel _ (by simp)]
        simp only [selE]
        rw [if_pos (by simp)]
        rw [show i + (k + 1) = i + 1 + k by omega]
        exact e2
    · rw [hsel _ rfl]
      simpa only [selE, if_true] using hK

end
end Go.Am
