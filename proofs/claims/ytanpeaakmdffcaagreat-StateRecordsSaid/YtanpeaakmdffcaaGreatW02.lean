/- What functions of this program compute, a part: see the main text. No conditions. -/
import Derived.Test.YtanpeaakmdffcaaGreatW01
import Derived.WalkKit
set_option linter.all false
set_option maxRecDepth 100000
namespace Go.Am
open Go

def tsize (P : Program) (t : TypeId) : Option Nat := (P.info? t).map (·.size)
def tbytes (P : Program) (t : TypeId) : Option Nat := (P.info? t).map (·.bytes)
def tzero (P : Program) (t : TypeId) : Option AV := (P.info? t).bind fun i => i.zero.bind ofV
def tagg (P : Program) (t : TypeId) : Option Bool := (P.underlying t).map fun | .struct _ | .array _ _ => true | _ => false
def tfield (P : Program) (t : TypeId) (f : Nat) : Option (Nat × TypeId) := (P.underlying t).bind fun | .struct fs => (fs[f]?).map fun x => (x.offset, x.type) | _ => none
def telem (P : Program) (t : TypeId) : Option TypeId := (P.underlying t).bind fun | .slice e => some e | _ => none
def tarr (P : Program) (t : TypeId) : Option (Nat × TypeId) := (P.underlying t).bind fun | .array n e => some (n, e) | _ => none
def tint (P : Program) (t : TypeId) : Option IntKind := (P.underlying t).bind fun | .int k => some k | _ => none
def tstr (P : Program) (t : TypeId) : Bool := match P.underlying t with | some .string => true | _ => false
def tbool (P : Program) (t : TypeId) : Bool := match P.underlying t with | some .bool => true | _ => false
def tptr (P : Program) (t : TypeId) : Bool := match P.underlying t with | some (.pointer _) => true | _ => false

section ty
variable {P : Program} {t : TypeId}
theorem tsize_run {n : Nat} (h : tsize P t = some n) (w : World) : (Go.sizeOf t).run P w = .ok n w := by
  simp only [tsize, Option.map_eq_some_iff] at h
  obtain ⟨i, h1, rfl⟩ := h
  simp [Go.sizeOf, typeInfo, h1]
theorem tagg_run {b : Bool} (h : tagg P t = some b) (w : World) : (isAgg t).run P w = .ok b w := by
  simp only [tagg, Option.map_eq_some_iff] at h
  obtain ⟨d, h1, rfl⟩ := h
  cases d <;> simp [isAgg, run_underlying h1]
theorem telem_und {e : TypeId} (h : telem P t = some e) : P.underlying t = some (.slice e) := by
  simp only [telem, Option.bind_eq_some_iff] at h
  obtain ⟨d, h1, h2⟩ := h
  cases d <;> simp at h2
  rw [h1, h2]
theorem tarr_und {e : TypeId} {n : Nat} (h : tarr P t = some (n, e)) : P.underlying t = some (.array n e) := by
  simp only [tarr, Option.bind_eq_some_iff] at h
  obtain ⟨d, h1, h2⟩ := h
  cases d <;> simp at h2
  rw [h1, h2.1, h2.2]
theorem tint_und {k : IntKind} (h : tint P t = some k) : P.underlying t = some (.int k) := by
  simp only [tint, Option.bind_eq_some_iff] at h
  obtain ⟨d, h1, h2⟩ := h
  cases d <;> simp at h2
  rw [h1, h2]
theorem tstr_und (h : tstr P t = true) : P.underlying t = some .string := by
  unfold tstr at h; split at h <;> simp_all
theorem tbool_und (h : tbool P t = true) : P.underlying t = some .bool := by
  unfold tbool at h; split at h <;> simp_all
theorem tptr_und (h : tptr P t = true) : ∃ e, P.underlying t = some (.pointer e) := by
  unfold tptr at h; split at h <;> simp_all
theorem tfield_und {f o : Nat} {ft : TypeId} (h : tfield P t f = some (o, ft)) : ∃ fs x, P.underlying t = some (.struct fs) ∧ fs[f]? = some x ∧ x.offset = o ∧ x.type = ft := by
  simp only [tfield, Option.bind_eq_some_iff] at h
  obtain ⟨d, h1, h2⟩ := h
  cases d <;> simp at h2
  obtain ⟨x, h2, h3, h4⟩ := h2
  exact ⟨_, x, h1, h2, h3, h4⟩
end ty

/-- One cell holds it. -/
def AV.one : AV → Bool
  | .agg _ | .tuple _ | .lref _ _ => false
  | _ => true

theorem VR.oneCell {g : Gh} {a : AV} {v : Value} (h : VR g a v) (h1 : a.one = true) : v.oneCell' = true := by
  cases h <;> first | rfl | cases h1

/-- Cells in memory, from a place on. -/
def CellsAt (g : Gh) (w : World) (b off : Nat) (cs : List AV) : Prop :=
  ∃ vals T fr, w.heap[b]? = some (.cells vals T fr) ∧ off + cs.length ≤ vals.size ∧ ∀ i, i < cs.length → VR g (cs.getD i default) (vals.getD (off + i) undef)

theorem CellsAt.drop {g : Gh} {w : World} {b off n : Nat} {cs : List AV} (h : CellsAt g w b off cs) (hn : n ≤ cs.length) : CellsAt g w b (off + n) (cs.drop n) := by
  obtain ⟨vals, T, fr, h1, h2, h3⟩ := h
  refine ⟨vals, T, fr, h1, by simp; omega, fun i hi => ?_⟩
  have := h3 (n + i) (by simp at hi; omega)
  rw [Nat.add_assoc]
  simpa [List.getD] using this

/-- Where an address leads: the cells from there on. -/
def acells (L : Boxes) (σ : Sh) : AV → Option (List AV)
  | .lref k off => match L.get k with
    | some cs => if off ≤ cs.length then some (cs.drop off) else none
    | none => none
  | .eref cs => some cs
  | .ptr id off => match σ.ob id with
    | some (.cells cs) => if off ≤ cs.length then some (cs.drop off) else none
    | _ => none
  | _ => none

theorem CellsAt.of_are {g : Gh} {w : World} {b : Nat} {cs : List AV} (h : Ob.cellsAre g cs w.heap[b]?) : CellsAt g w b 0 cs := by
  obtain ⟨vals, T, h1, h2, h3⟩ := h.ex
  exact ⟨vals, T, _, h1, by omega, fun i hi => by simpa using h3 i hi⟩

section rel
variable {P : Program} {B : Base} {g : Gh} {blk : Nat → Option Nat} {E : Env} {L : Boxes} {σ : Sh} {tmps : Array Value} {w : World}

theorem acells_ok (h : Rel B g blk E L σ tmps w) {a : AV} {cs : List AV} (ha : acells L σ a = some cs) {x : Value} (hx : SR g blk a x) :
    ∃ b off, x = .pointer (some ⟨b, off, none⟩) ∧ CellsAt g w b off cs := by
  cases a with
  | lref k off =>
    obtain ⟨b, hb, rfl⟩ := hx
    simp only [acells] at ha
    split at ha
    · rename_i cs0 h0
      split at ha
      · rename_i hle
        cases ha
        obtain ⟨b', h1, _, h3, _⟩ := h.locs k cs0 h0
        obtain rfl : b' = b := by rw [h1] at hb; exact Option.some.inj hb
        exact ⟨b', off, rfl, by simpa using (CellsAt.of_are h3).drop hle⟩
      · cases ha
    · cases ha
  | eref cs0 =>
    cases ha
    cases hx with
    | eref _ b off c hc hle hv =>
      obtain ⟨vals, T, fr, h1, h2⟩ := h.sh.vecs b c hc
      refine ⟨b, off, rfl, vals, T, fr, h1, ?_, fun i hi => ?_⟩
      · have := h2.length_le; simp at this; omega
      · have := hv i hi
        rw [← getD_of_prefix h2 undef (by omega)] at this
        simpa using this
  | ptr id off =>
    simp only [acells] at ha
    split at ha
    · rename_i cs0 h0
      split at ha
      · rename_i hle
        cases ha
        cases hx with
        | ptr _ _ b hb =>
          obtain ⟨b', h1, h2, _⟩ := h.sh.obs id _ h0
          obtain rfl : b' = b := by rw [h1] at hb; exact Option.some.inj hb
          exact ⟨b', off, rfl, by simpa using (CellsAt.of_are h2).drop hle⟩
      · cases ha
    · cases ha
  | _ => cases ha

/-- A load. -/
def aload (P : Program) (t : TypeId) (cs : List AV) : Option AV :=
  match tsize P t, tagg P t with
  | some n, some true => if n ≤ cs.length then some (.agg (cs.take n)) else none
  | some _, some false => cs.head?
  | _, _ => none

theorem extract_getD (vals : Array Value) (off n i : Nat) (hi : i < n) : (vals.extract off (off + n)).getD i undef = vals.getD (off + i) undef := by
  simp only [Array.getD_eq_getD_getElem?, Array.getElem?_extract]
  by_cases h : i < min (off + n) vals.size - off
  · simp [h]
  · simp [h]
    have : vals.size ≤ off + i := by omega
    simp [Array.getElem?_eq_none this]

theorem loadVar_ok {t : TypeId} {b off : Nat} {cs : List AV} {v : AV} (hc : CellsAt g w b off cs) (hv : aload P t cs = some v) :
    ∃ u, (loadVar t ⟨b, off, none⟩).run P w = .ok u w ∧ VR g v u := by
  obtain ⟨vals, T, fr, h1, h2, h3⟩ := hc
  simp only [aload] at hv
  split at hv
  · rename_i n hn ha
    split at hv
    · rename_i hle
      cases hv
      refine ⟨.agg (vals.extract off (off + n)), ?_, ?_⟩
      · have hl : ((vals.extract off (off + n)).toList).length = n := by simp; omega
        have hr := run_loadCells_list (P := P) w ⟨b, off, none⟩ (vals.extract off (off + n)).toList (fun j v hj => by
          have hjn : j < n := by
            have := (List.getElem?_eq_some_iff.1 hj).1
            omega
          rw [Addr.add_lit, cell_of_row w b _ vals T fr h1]
          simp only [Array.getElem?_toList, Array.getElem?_extract] at hj
          split at hj
          · exact hj
          · cases hj)
        rw [hl, Array.toArray_toList] at hr
        simp [loadVar, tagg_run ha, tsize_run hn, hr]
      · refine .agg _ _ (by simp; omega) fun i hi => ?_
        have hi' : i < n := by simp at hi; omega
        rw [extract_getD _ _ _ _ hi']
        have := h3 i (by omega)
        rw [show (cs.take n).getD i default = cs.getD i default by simp [List.getD, hi']]
        exact this
    · cases hv
  · rename_i n hn ha
    cases cs with
    | nil => cases hv
    | cons a cs =>
      cases hv
      have h0 : off < vals.size := by simp at h2; omega
      refine ⟨vals.getD off undef, ?_, by simpa using h3 0 (by simp)⟩
      have hcell : w.cell? ⟨b, off, none⟩ = some vals[off] := by rw [cell_of_row w b _ vals T fr h1]; simp [h0]
      simp [loadVar, tagg_run ha, hcell, h0]
  · cases hv

/-- A value is written into cells. -/
def asplice (cs : List AV) (off : Nat) (ns : List AV) : Option (List AV) :=
  if off + ns.length ≤ cs.length && ns.all AV.one then some (cs.take off ++ ns ++ cs.drop (off + ns.length)) else none

/-- The cells of a value that fit a type. -/
def acellsOf (P : Program) (t : TypeId) (v : AV) : Option (List AV) :=
  match tsize P t with
  | some n => if v.cells.length = n then some v.cells else none
  | none => none

theorem VR.cells {g : Gh} {a : AV} {v : Value} (h : VR g a v) : v.cells.size = a.cells.length ∧ ∀ i, i < a.cells.length → VR g (a.cells.getD i default) (v.cells.getD i undef) := by
  cases h with
  | agg cs vs hl h => exact ⟨hl, h⟩
  | _ =>
    refine ⟨rfl, fun i hi => ?_⟩
    obtain rfl : i = 0 := by simp [AV.cells] at hi; exact hi
    simp only [AV.cells, Value.cells]
    first
      | exact .bool _ | exact .int _ _ | exact .str _ | (exact .tuple _ _ (by assumption) (by assumption)) | exact .nils _
      | (exact .list _ _ _ _ _ _ _ (by assumption) (by assumption) (by assumption) (by assumption) (by assumption) (by assumption) (by assumption))
      | (exact .eref _ _ _ _ (by assumption) (by assumption) (by assumption)) | (exact .ptr _ _ _ (by assumption)) | exact .nilp | (exact .map _ _ (by assumption)) | exact .nilmap
      | (exact .func _ _ _ (by assumption) (by assumption)) | exact .nilf
      | (exact .sl _ _ _ (by assumption)) | (exact .bsl _ _ _ _ (by assumption)) | exact .nils0 | exact .nili

theorem storeVar_ok {t : TypeId} {b off : Nat} {cs cs' ns : List AV} {v : AV} {u : Value} {vals : Array Value} {T : TypeId} (hw : w.heap[b]? = some (.cells vals T (0, 0))) (hl : vals.size = cs.length)
    (hcs : ∀ i, i < cs.length → VR g (cs.getD i default) (vals.getD i undef)) (hv : VR g v u) (hn : acellsOf P t v = some ns) (hs : asplice cs off ns = some cs') :
    ∃ vals', (storeVar t ⟨b, off, none⟩ u).run P w = .ok () (w.setRow b vals') ∧ vals'.size = cs'.length ∧ ∀ i, i < cs'.length → VR g (cs'.getD i default) (vals'.getD i undef) := by
  simp only [acellsOf] at hn
  split at hn
  · rename_i n ht
    split at hn
    · rename_i hlen
      cases hn
      simp only [asplice] at hs
      split at hs
      · rename_i hle
        cases hs
        obtain ⟨e1, e2⟩ := hv.cells
        simp only [Bool.and_eq_true, decide_eq_true_eq, List.all_eq_true] at hle
        obtain ⟨hle, hone⟩ := hle
        have h1 : ∀ x ∈ u.cells.toList, x.oneCell' = true := by
          intro x hx
          obtain ⟨i, hi, rfl⟩ := List.mem_iff_getElem.1 hx
          have hi' : i < v.cells.length := by simp at hi; omega
          have := e2 i hi'
          rw [getD_eq _ _ _ hi'] at this
          have h2 := this.oneCell (hone _ (List.getElem_mem hi'))
          have h3 : i < u.cells.size := by omega
          simpa [Array.getD, h3] using h2
        have hst := run_storeCells_at P b off T u.cells.toList 0 vals w hw (by simp; omega) h1
        refine ⟨(vals.toList.take (off + 0) ++ u.cells.toList ++ vals.toList.drop (off + 0 + u.cells.toList.length)).toArray, ?_, ?_, ?_⟩
        · simp only [storeVar, Sem.run_bind, tsize_run ht, Result.andThen_ok]
          rw [if_neg (by omega)]
          exact hst
        · simp; omega
        · intro i hi
          simp only [List.length_append, List.length_take, List.length_drop] at hi
          have hsz : u.cells.toList.length = v.cells.length := by simp [e1]
          by_cases ha : i < off
          · have := hcs i (by omega)
            have e : (List.take off cs ++ v.cells ++ List.drop (off + v.cells.length) cs).getD i default = cs.getD i default := by
              simp only [List.getD, List.append_assoc]
              rw [List.getElem?_append_left (by simp; omega), List.getElem?_take_of_lt ha]
            rw [e]
            have e' : ((List.take (off + 0) vals.toList ++ u.cells.toList ++ List.drop (off + 0 + u.cells.toList.length) vals.toList).toArray).getD i undef = vals.getD i undef := by
              rw [Array.getD_eq_getD_getElem?, Array.getD_eq_getD_getElem?]
              simp only [List.getElem?_toArray, List.append_assoc]
              rw [List.getElem?_append_left (by simp; omega), List.getElem?_take_of_lt (by omega)]
              simp
            rw [e']
            exact this
          · by_cases hb : i < off + v.cells.length
            · have := e2 (i - off) (by omega)
              have e : (List.take off cs ++ v.cells ++ List.drop (off + v.cells.length) cs).getD i default = v.cells.getD (i - off) default := by
                simp only [List.getD, List.append_assoc]
                rw [List.getElem?_append_right (by simp; omega), List.getElem?_append_left (by simp; omega)]
                simp [Nat.min_eq_left (show off ≤ cs.length by omega)]
              rw [e]
              have e' : ((List.take (off + 0) vals.toList ++ u.cells.toList ++ List.drop (off + 0 + u.cells.toList.length) vals.toList).toArray).getD i undef = u.cells.getD (i - off) undef := by
                rw [Array.getD_eq_getD_getElem?, Array.getD_eq_getD_getElem?]
                simp only [List.getElem?_toArray, List.append_assoc]
                rw [List.getElem?_append_right (by simp; omega), List.getElem?_append_left (by simp; omega)]
                simp [Nat.min_eq_left (show off ≤ vals.size by omega)]
              rw [e']
              exact this
            · have := hcs i (by omega)
              have e : (List.take off cs ++ v.cells ++ List.drop (off + v.cells.length) cs).getD i default = cs.getD i default := by
                simp only [List.getD]
                rw [List.getElem?_append_right (by simp; omega)]
                simp only [List.getElem?_drop, List.length_append, List.length_take, Nat.min_eq_left (show off ≤ cs.length by omega)]
                congr 2
                omega
              rw [e]
              have e' : ((List.take (off + 0) vals.toList ++ u.cells.toList ++ List.drop (off + 0 + u.cells.toList.length) vals.toList).toArray).getD i undef = vals.getD i undef := by
                rw [Array.getD_eq_getD_getElem?, Array.getD_eq_getD_getElem?]
                simp only [List.getElem?_toArray]
                rw [List.getElem?_append_right (by simp; omega)]
                simp only [List.getElem?_drop, List.length_append, List.length_take, Array.length_toList, Nat.add_zero, Nat.min_eq_left (show off ≤ vals.size by omega)]
                rw [← Array.getElem?_toList]
                congr 2
                simp only [Array.length_toList] at hsz
                omega
              rw [e']
              exact this
      · cases hs
    · cases hn
  · cases hn

end rel
end Go.Am
