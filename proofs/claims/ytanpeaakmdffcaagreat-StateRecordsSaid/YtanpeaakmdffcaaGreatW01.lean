/- What functions of this program compute, a part: see the main text. No conditions. -/
import Derived.Test.YtanpeaakmdffcaaGreatW00
import Derived.Laws.AppendOwn
set_option linter.all false
set_option maxRecDepth 100000
namespace Go.Am
open Go

theorem getD_eq {α : Type} (l : List α) (i : Nat) (d : α) (h : i < l.length) : l.getD i d = l[i] := by simp [List.getD, List.getElem?_eq_getElem h]

section sh
variable {g g' : Gh} {σ : Sh} {w w' : World}

theorem Ob.is.some_ {g : Gh} {x : Ob} {o : Option Obj} (h : x.is g o) : o ≠ none := by
  cases x with
  | cells cs => obtain ⟨vals, T, h1, _⟩ := h.ex; simp [h1]
  | map es => obtain ⟨a, b, h1, _⟩ := h; simp [h1]
  | bld T cs => obtain ⟨vals, h1, _⟩ := h; simp [h1]

theorem lt_of_some {w : World} {b : Nat} {o : Obj} (h : w.heap[b]? = some o) : b < w.heap.size := (Array.getElem?_eq_some_iff.1 h).1

theorem ShRel.lt (h : ShRel g σ w) {b : Nat} (hb : g.vec b ≠ none ∨ (∃ id o, σ.ob id = some o ∧ g.sh id = some b)) : b < w.heap.size := by
  rcases hb with hb | ⟨id, o, ho, hs⟩
  · cases hc : g.vec b with
    | none => exact absurd hc hb
    | some c => obtain ⟨vals, T, fr, h1, _⟩ := h.vecs b c hc; exact lt_of_some h1
  · obtain ⟨b', h1, h2, _⟩ := h.obs id o ho
    have : b' = b := by rw [h1] at hs; exact Option.some.inj hs
    subst this
    cases hh : w.heap[b']? with
    | none => exact absurd hh h2.some_
    | some o => exact lt_of_some hh

theorem ShRel.tokvec (h : ShRel g σ w) {t b : Nat} {x : Nat × Nat} (ht : t ∈ σ.live) (hb : g.tok t = some (b, x)) : g.vec b ≠ none := by
  obtain ⟨c, _, _, h1, _⟩ := h.toks t ht b x.1 x.2 hb
  simp [h1]

theorem ShRel.lt_wr (h : ShRel g σ w) {b : Nat} (hb : g.vec b ≠ none ∨ Wr g σ b) : b < w.heap.size := by
  rcases hb with hb | hb | ⟨t, ht, e, hb⟩
  · exact h.lt (.inl hb)
  · exact h.lt (.inr hb)
  · exact h.lt (.inl (h.tokvec ht hb))

/-- The world turns at blocks that nothing here speaks of. -/
theorem ShRel.heap (h : ShRel g σ w) (hk : ∀ b, (g.vec b ≠ none ∨ (∃ id o, σ.ob id = some o ∧ g.sh id = some b)) → w'.heap[b]? = w.heap[b]?) : ShRel g σ w' where
  vecs b c hc := by rw [hk b (.inl (by simp [hc]))]; exact h.vecs b c hc
  obs id o ho := by
    obtain ⟨b, h1, h2, h3⟩ := h.obs id o ho
    exact ⟨b, h1, by rw [hk b (.inr ⟨id, o, ho, h1⟩)]; exact h2, h3⟩
  inj := h.inj
  toks t ht b fin lim hb := by
    rw [hk b (.inl (h.tokvec ht hb))]
    exact h.toks t ht b fin lim hb
  tinj := h.tinj
  live := h.live
  fresh := h.fresh

theorem ShRel.alloc (h : ShRel g σ w) (o : Obj) : ShRel g σ (w.alloc o) := h.heap fun b hb => heap_alloc_old w o b (h.lt hb)
theorem ShRel.same (h : ShRel g σ w) (he : w'.heap = w.heap) : ShRel g σ w' := h.heap fun _ _ => by rw [he]

/-! ghosts that know more -/
def Gh.setVec (g : Gh) (b : Nat) (c : List Value) : Gh := { g with vec := fun x => if x = b then some c else g.vec x }
def Gh.setSh (g : Gh) (n b : Nat) : Gh := { g with sh := fun x => if x = n then some b else g.sh x }
def Gh.setTok (g : Gh) (n : Nat) (x : Nat × Nat × Nat) : Gh := { g with tok := fun y => if y = n then some x else g.tok y }

theorem Gh.le_setVec {b : Nat} {c : List Value} (h : ∀ c0, g.vec b = some c0 → c0 <+: c) : g.le (g.setVec b c) :=
  ⟨fun x l hx => by
    by_cases hb : x = b
    · subst hb; exact ⟨c, by simp [Gh.setVec], h l hx⟩
    · exact ⟨l, by simp [Gh.setVec, hb, hx], List.prefix_refl _⟩, fun _ _ h => h, fun _ _ h => h, Nat.le_refl _⟩
theorem Gh.le_setSh {n b : Nat} (h : g.sh n = none) : g.le (g.setSh n b) :=
  ⟨fun _ l hx => ⟨l, hx, List.prefix_refl _⟩, fun i x hx => by
    have : i ≠ n := fun e => by subst e; simp [h] at hx
    simp [Gh.setSh, this, hx], fun _ _ h => h, Nat.le_refl _⟩
theorem Gh.le_setTok {n : Nat} {x : Nat × Nat × Nat} (h : g.tok n = none) : g.le (g.setTok n x) :=
  ⟨fun _ l hx => ⟨l, hx, List.prefix_refl _⟩, fun _ _ h => h, fun i y hy => by
    have : i ≠ n := fun e => by subst e; simp [h] at hy
    simp [Gh.setTok, this, hy], Nat.le_refl _⟩

/-- Of a block more is known: all that nobody may turn. -/
theorem ShRel.setVec (h : ShRel g σ w) {b : Nat} {c : List Value} (hb : ∃ vals T fr, w.heap[b]? = some (.cells vals T fr) ∧ c <+: vals.toList) (hle : ∀ c0, g.vec b = some c0 → c0 <+: c)
    (hno : ∀ id o, σ.ob id = some o → g.sh id ≠ some b) (htk : ∀ t, t ∈ σ.live → ∀ x, g.tok t ≠ some (b, x)) : ShRel (g.setVec b c) σ w where
  vecs x l hx := by
    by_cases he : x = b
    · subst he; simp [Gh.setVec] at hx; subst hx; exact hb
    · simp [Gh.setVec, he] at hx; exact h.vecs x l hx
  obs id o ho := by
    obtain ⟨y, h1, h2, h3⟩ := h.obs id o ho
    have : y ≠ b := fun e => hno id o ho (e ▸ h1)
    exact ⟨y, h1, h2.mono (Gh.le_setVec hle), by simp [Gh.setVec, this, h3]⟩
  inj := h.inj
  toks t ht y fin lim hy := by
    obtain ⟨l, vals, T, h1, h2⟩ := h.toks t ht y fin lim hy
    have : y ≠ b := fun e => htk t ht (fin, lim) (e ▸ hy)
    exact ⟨l, vals, T, by simp [Gh.setVec, this, h1], h2⟩
  tinj := h.tinj
  live := h.live
  fresh := h.fresh

/-- A number that may be given to something new. -/
structure Free (B : Base) (g : Gh) (σ : Sh) (n : Nat) : Prop where
  lo : B.g.nt ≤ n
  hi : n < g.nt
  sh : g.sh n = none
  tok : g.tok n = none
  live : n ∉ σ.live
  ob : σ.ob n = none

end sh

section rel
variable {B : Base} {g g' : Gh} {blk : Nat → Option Nat} {E : Env} {L : Boxes} {σ σ' : Sh} {tmps : Array Value} {w w' : World}

theorem Rel.lt (h : Rel B g blk E L σ tmps w) {k b : Nat} {cs : List AV} (hk : L.get k = some cs) (hb : blk k = some b) : b < w.heap.size := by
  obtain ⟨b', h1, _, h2, _⟩ := h.locs k cs hk
  obtain rfl : b' = b := by rw [h1] at hb; exact Option.some.inj hb
  obtain ⟨vals, T, h3, _⟩ := h2.ex
  exact lt_of_some h3

theorem Rel.notWr (h : Rel B g blk E L σ tmps w) {k b : Nat} {cs : List AV} (hk : L.get k = some cs) (hb : blk k = some b) : ¬ Wr g σ b := by
  obtain ⟨b', h1, _, _, h4, h5⟩ := h.locs k cs hk
  obtain rfl : b' = b := by rw [h1] at hb; exact Option.some.inj hb
  rintro (⟨id, o, ho, hs⟩ | ⟨t, ht, e, hs⟩)
  · exact h5 id o ho hs
  · exact h.sh.tokvec ht hs h4

/-- A step that turns only what the shared state may turn. -/
theorem Rel.step (h : Rel B g blk E L σ tmps w) (hle : g.le g') (hs : ShRel g' σ' w') (hf : FrameC g σ w g' σ' w') (hn : Nums B.g.nt g g') (ho : Old B.g.nt σ σ') : Rel B g' blk E L σ' tmps w' where
  size := h.size
  slots s v hv := by
    obtain ⟨x, h1, h2⟩ := h.slots s v hv
    exact ⟨x, h1, h2.mono hle⟩
  locs k cs hk := by
    obtain ⟨b, h1, h2, h3, h4, h5⟩ := h.locs k cs hk
    have hlt := h.lt hk h1
    have hnw := h.notWr hk h1
    obtain ⟨e1, e2⟩ := hf.keep b hlt hnw
    refine ⟨b, h1, h2, by rw [e1]; exact h3.mono hle, by rw [e2]; exact h4, fun id o ho hid => ?_⟩
    exact hnw (hf.own b hlt (.inl ⟨id, o, ho, hid⟩))
  linj := h.linj
  sh := hs
  ext := h.ext.trans hle
  nums := h.nums.trans hn
  frame := h.frame.trans hf
  old := h.old.trans ho

theorem Rel.put (h : Rel B g blk E L σ tmps w) {d : Nat} {v : AV} {x : Value} (hd : d < B.n) (hv : SR g blk v x) : Rel B g blk ((d, v) :: E) L σ (tmps.setIfInBounds d x) w where
  size := by simp [h.size]
  slots s u hu := by
    by_cases he : s = d
    · subst he
      simp [Env.get] at hu
      subst hu
      exact ⟨x, by rw [Array.getElem?_setIfInBounds_self]; simp [h.size, hd], hv⟩
    · simp [Env.get, he] at hu
      obtain ⟨y, h1, h2⟩ := h.slots s u hu
      exact ⟨y, by rw [Array.getElem?_setIfInBounds_ne (by omega)]; exact h1, h2⟩
  locs := h.locs
  linj := h.linj
  sh := h.sh
  ext := h.ext
  nums := h.nums
  frame := h.frame
  old := h.old

/-- A slot is written of which nothing is known any more. -/
theorem Rel.drop (h : Rel B g blk E L σ tmps w) {d : Nat} (x : Value) (hd : E.get d = none) : Rel B g blk E L σ (tmps.setIfInBounds d x) w where
  size := by simp [h.size]
  slots s u hu := by
    have he : s ≠ d := fun e => by subst e; simp [hd] at hu
    obtain ⟨y, h1, h2⟩ := h.slots s u hu
    exact ⟨y, by rw [Array.getElem?_setIfInBounds_ne (by omega)]; exact h1, h2⟩
  locs := h.locs
  linj := h.linj
  sh := h.sh
  ext := h.ext
  nums := h.nums
  frame := h.frame
  old := h.old

/-- Less is known of the slots and the boxes. -/
theorem Rel.weaken (h : Rel B g blk E L σ tmps w) {E' : Env} {L' : Boxes} (hE : ∀ s v, E'.get s = some v → E.get s = some v) (hL : ∀ k cs, L'.get k = some cs → L.get k = some cs) :
    Rel B g blk E' L' σ tmps w where
  size := h.size
  slots s u hu := h.slots s u (hE s u hu)
  locs k cs hk := h.locs k cs (hL k cs hk)
  linj k k' cs cs' b hk hk' := h.linj k k' cs cs' b (hL _ _ hk) (hL _ _ hk')
  sh := h.sh
  ext := h.ext
  nums := h.nums
  frame := h.frame
  old := h.old

theorem Rel.same (h : Rel B g blk E L σ tmps w) (he : w'.heap = w.heap) (ho : w'.os = w.os) (ht : w'.tape = w.tape) (hp : w'.output = w.output) : Rel B g blk E L σ tmps w' :=
  h.step (Gh.le.refl g) (h.sh.same he) ⟨ho, ht, hp, by rw [he]; exact Nat.le_refl _, fun b _ _ => ⟨by rw [he], rfl⟩, fun _ _ h => h⟩ (Nums.refl _ _) (Old.refl _ _)
theorem Rel.drew (h : Rel B g blk E L σ tmps w) : Rel B g blk E L σ tmps w.drew := h.same rfl rfl rfl rfl

theorem Rel.notNew (h : Rel B g blk E L σ tmps w) : g.vec w.heap.size = none ∧ ∀ id o, σ.ob id = some o → g.sh id ≠ some w.heap.size := by
  constructor
  · cases hc : g.vec w.heap.size with
    | none => rfl
    | some c => exact absurd (h.sh.lt (.inl (by simp [hc]))) (Nat.lt_irrefl _)
  · intro id o ho hs
    exact absurd (h.sh.lt (.inr ⟨id, o, ho, hs⟩)) (Nat.lt_irrefl _)

/-- A new block, of which nothing will turn any more (up to 'c'). -/
theorem Rel.newVec (h : Rel B g blk E L σ tmps w) (vals : Array Value) (T : TypeId) (c : List Value) (hc : c <+: vals.toList) :
    Rel B (g.setVec w.heap.size c) blk E L σ tmps (w.alloc (.cells vals T)) := by
  obtain ⟨hv, hs⟩ := h.notNew
  have hle : ∀ c0, g.vec w.heap.size = some c0 → c0 <+: c := fun c0 h0 => by simp [hv] at h0
  refine h.step (Gh.le_setVec hle) ((h.sh.alloc _).setVec ⟨vals, T, _, heap_alloc_new w _, hc⟩ hle hs fun t ht x hx => ?_) ⟨rfl, rfl, rfl, by simp, fun b hb _ => ⟨heap_alloc_old w _ b hb, ?_⟩, fun b hb hw => ?_⟩ (fun n _ => ⟨rfl, rfl⟩) (Old.refl _ _)
  · exact h.sh.tokvec ht hx hv
  · simp [Gh.setVec, Nat.ne_of_lt hb]
  · exact hw

/-- A new box of the frame's own. -/
theorem Rel.newLoc (h : Rel B g blk E L σ tmps w) (k : Nat) (vals : Array Value) (T : TypeId) (cs : List AV) (hl : vals.size = cs.length) (hcs : ∀ i, i < cs.length → VR g (cs.getD i default) (vals.getD i undef))
    (hno : ∀ s off, E.get s ≠ some (.lref k off)) : Rel B g (fun x => if x = k then some w.heap.size else blk x) E ((k, cs) :: L) σ tmps (w.alloc (.cells vals T)) where
  size := h.size
  slots s v hv := by
    obtain ⟨x, h1, h2⟩ := h.slots s v hv
    refine ⟨x, h1, ?_⟩
    cases v with
    | lref k' off =>
      have : k' ≠ k := fun e => hno s off (e ▸ hv)
      simpa [SR, this] using h2
    | _ => exact h2
  locs k' cs' hk := by
    by_cases he : k' = k
    · subst he
      simp [Boxes.get] at hk
      subst hk
      obtain ⟨hv, hs⟩ := h.notNew
      exact ⟨w.heap.size, by simp, h.frame.size, ⟨vals, T, heap_alloc_new w _, hl, hcs⟩, hv, hs⟩
    · simp [Boxes.get, he] at hk
      obtain ⟨b, h1, h2, h3, h4, h5⟩ := h.locs k' cs' hk
      exact ⟨b, by simp [he, h1], h2, by rw [heap_alloc_old w _ b (h.lt hk h1)]; exact h3, h4, h5⟩
  linj k₁ k₂ c₁ c₂ b h₁ h₂ e₁ e₂ := by
    by_cases a₁ : k₁ = k <;> by_cases a₂ : k₂ = k
    · rw [a₁, a₂]
    · exfalso
      simp [a₁] at e₁
      simp [a₂] at e₂
      simp [Boxes.get, a₂] at h₂
      have := h.lt h₂ e₂
      omega
    · exfalso
      simp [a₂] at e₂
      simp [a₁] at e₁
      simp [Boxes.get, a₁] at h₁
      have := h.lt h₁ e₁
      omega
    · simp [Boxes.get, a₁] at h₁
      simp [Boxes.get, a₂] at h₂
      simp [a₁] at e₁
      simp [a₂] at e₂
      exact h.linj _ _ _ _ _ h₁ h₂ e₁ e₂
  sh := h.sh.alloc _
  ext := h.ext
  nums := h.nums
  frame := h.frame.trans ⟨rfl, rfl, rfl, by simp, fun b hb _ => ⟨heap_alloc_old w _ b hb, rfl⟩, fun _ _ h => h⟩
  old := h.old

theorem setRow_at {w : World} {b : Nat} {cur : Array Value} {T : TypeId} (h : w.heap[b]? = some (.cells cur T (0, 0))) (cs : Array Value) : (w.setRow b cs).heap[b]? = some (.cells cs T (0, 0)) := setRow_heap w b cur cs T (0, 0) h
theorem setRow_ne (w : World) (b k : Nat) (cs : Array Value) (h : k ≠ b) : (w.setRow b cs).heap[k]? = w.heap[k]? := setRow_other w b k cs h

/-- A store into a box of the frame's own. -/
theorem Rel.setLoc (h : Rel B g blk E L σ tmps w) {k b : Nat} {cs0 cs : List AV} (hk : L.get k = some cs0) (hb : blk k = some b) (vals : Array Value) (hl : vals.size = cs.length)
    (hcs : ∀ i, i < cs.length → VR g (cs.getD i default) (vals.getD i undef)) : Rel B g blk E ((k, cs) :: L) σ tmps (w.setRow b vals) where
  size := h.size
  slots := h.slots
  locs k' cs' hk' := by
    by_cases he : k' = k
    · subst he
      simp [Boxes.get] at hk'
      subst hk'
      obtain ⟨b', h1, h2, h3, h4, h5⟩ := h.locs k' cs0 hk
      obtain rfl : b' = b := by rw [h1] at hb; exact Option.some.inj hb
      obtain ⟨v0, T, e1, _⟩ := h3.ex
      exact ⟨b', h1, h2, ⟨vals, T, setRow_at e1 vals, hl, hcs⟩, h4, h5⟩
    · simp [Boxes.get, he] at hk'
      obtain ⟨b', h1, h2, h3, h4, h5⟩ := h.locs k' cs' hk'
      have hne : b' ≠ b := fun e => he (h.linj _ _ _ _ b hk' hk (e ▸ h1) hb)
      exact ⟨b', h1, h2, by rw [setRow_ne _ _ _ _ hne]; exact h3, h4, h5⟩
  linj k₁ k₂ c₁ c₂ b' h₁ h₂ e₁ e₂ := by
    have f : ∀ {x : Nat} {c : List AV}, Boxes.get ((k, cs) :: L) x = some c → ∃ c', L.get x = some c' := fun {x c} hx => by
      by_cases he : x = k
      · exact ⟨cs0, he ▸ hk⟩
      · simp [Boxes.get, he] at hx; exact ⟨c, hx⟩
    obtain ⟨_, h₁⟩ := f h₁
    obtain ⟨_, h₂⟩ := f h₂
    exact h.linj _ _ _ _ _ h₁ h₂ e₁ e₂
  sh := h.sh.heap fun x hx => setRow_ne _ _ _ _ fun e => by
    subst e
    obtain ⟨b', h1, _, _, h4, h5⟩ := h.locs k cs0 hk
    obtain rfl : b' = x := by rw [h1] at hb; exact Option.some.inj hb
    rcases hx with hx | ⟨id, o, ho, hs⟩
    · exact hx h4
    · exact h5 id o ho hs
  ext := h.ext
  nums := h.nums
  frame := by
    obtain ⟨b', h1, h2, _⟩ := h.locs k cs0 hk
    obtain rfl : b' = b := by rw [h1] at hb; exact Option.some.inj hb
    have f := h.frame
    exact ⟨f.os, f.tape, f.output, by simpa using f.size, fun x hx hn => ⟨by rw [setRow_ne _ _ _ _ (by omega)]; exact (f.keep x hx hn).1, (f.keep x hx hn).2⟩, f.own⟩
  old := h.old

def Sh.setOb (σ : Sh) (n : Nat) (o : Ob) : Sh := { σ with ob := fun x => if x = n then some o else σ.ob x }
def Sh.delOb (σ : Sh) (n : Nat) : Sh := { σ with ob := fun x => if x = n then none else σ.ob x }

/-- A shared object is written. -/
theorem Rel.setSh (h : Rel B g blk E L σ tmps w) {id b : Nat} {o0 o : Ob} (hid : σ.ob id = some o0) (hb : g.sh id = some b) (hw : w'.heap.size = w.heap.size) (hos : w'.os = w.os) (htp : w'.tape = w.tape) (hout : w'.output = w.output)
    (hother : ∀ k, k ≠ b → w'.heap[k]? = w.heap[k]?) (ho : o.is g w'.heap[b]?) : Rel B g blk E L (σ.setOb id o) tmps w' := by
  obtain ⟨b', e1, _, e3⟩ := h.sh.obs id o0 hid
  obtain rfl : b' = b := by rw [e1] at hb; exact Option.some.inj hb
  have wr : ∀ x, Wr g (σ.setOb id o) x → Wr g σ x := fun x => by
    rintro (⟨i, y, hy, hs⟩ | ht)
    · by_cases he : i = id
      · subst he; exact .inl ⟨i, o0, hid, hs⟩
      · simp [Sh.setOb, he] at hy; exact .inl ⟨i, y, hy, hs⟩
    · exact .inr ht
  refine h.step (Gh.le.refl g) ?_ ⟨hos, htp, hout, by omega, fun x _ hn => ⟨hother x fun e => hn (.inl ⟨id, o0, hid, e ▸ e1⟩), rfl⟩, fun x _ => wr x⟩ (Nums.refl _ _) ⟨fun _ h => .inl h, fun i hi _ => by
    have : i ≠ id := fun e => by subst e; rw [hid] at hi; cases hi
    simp [Sh.setOb, this, hi]⟩
  exact
    { vecs := fun x c hc => by rw [hother x (fun e => by subst e; simp [e3] at hc)]; exact h.sh.vecs x c hc
      obs := fun i y hy => by
        by_cases he : i = id
        · subst he
          simp [Sh.setOb] at hy
          subst hy
          exact ⟨b', e1, ho, e3⟩
        · simp [Sh.setOb, he] at hy
          obtain ⟨x, f1, f2, f3⟩ := h.sh.obs i y hy
          have hne : x ≠ b' := fun e => he (h.sh.inj i id y o0 b' hy hid (e ▸ f1) e1)
          exact ⟨x, f1, by rw [hother x hne]; exact f2, f3⟩
      inj := fun i j x y b hi hj => by
        have f : ∀ {i : Nat} {x : Ob}, (σ.setOb id o).ob i = some x → ∃ x', σ.ob i = some x' := fun {i x} hx => by
          by_cases he : i = id
          · exact ⟨o0, he ▸ hid⟩
          · simp [Sh.setOb, he] at hx; exact ⟨x, hx⟩
        obtain ⟨_, hi⟩ := f hi
        obtain ⟨_, hj⟩ := f hj
        exact h.sh.inj i j _ _ b hi hj
      toks := fun t ht x fin lim hx => by
        obtain ⟨c, vals, T, f1, f2, f3, f4⟩ := h.sh.toks t ht x fin lim hx
        exact ⟨c, vals, T, f1, f2, by rw [hother x (fun e => by subst e; simp [e3] at f1)]; exact f3, f4⟩
      tinj := h.sh.tinj
      live := h.sh.live
      fresh := h.sh.fresh }

/-- A new shared object. -/
theorem Rel.newSh (h : Rel B g blk E L σ tmps w) {n : Nat} (hn : Free B g σ n) (x : Obj) (o : Ob) (ho : o.is g (some x)) :
    Rel B (g.setSh n w.heap.size) blk E L (σ.setOb n o) tmps (w.alloc x) := by
  obtain ⟨hv, hs⟩ := h.notNew
  have hle := Gh.le_setSh (g := g) (n := n) (b := w.heap.size) hn.sh
  have wr : ∀ y, y < w.heap.size → Wr (g.setSh n w.heap.size) (σ.setOb n o) y → Wr g σ y := fun y hy => by
    rintro (⟨i, z, hz, hs⟩ | ht)
    · by_cases he : i = n
      · subst he; simp [Gh.setSh] at hs; omega
      · simp [Sh.setOb, he] at hz; simp [Gh.setSh, he] at hs; exact .inl ⟨i, z, hz, hs⟩
    · exact .inr ht
  refine h.step hle ?_ ⟨rfl, rfl, rfl, by simp, fun y hy _ => ⟨heap_alloc_old w _ y hy, rfl⟩, wr⟩ (fun i hi => ⟨by have := hn.lo; simp [Gh.setSh, show i ≠ n by omega], rfl⟩) ⟨fun _ h => .inl h, fun i hi hl => by
    have : i ≠ n := by have := hn.lo; omega
    simp [Sh.setOb, this, hi]⟩
  exact
    { vecs := fun y c hc => by rw [heap_alloc_old w _ y (h.sh.lt (.inl (by rw [show g.vec y = some c from hc]; simp)))]; exact h.sh.vecs y c hc
      obs := fun i y hy => by
        by_cases he : i = n
        · subst he
          simp [Sh.setOb] at hy
          subst hy
          exact ⟨w.heap.size, by simp [Gh.setSh], by rw [heap_alloc_new w _]; exact ho.mono hle, hv⟩
        · simp [Sh.setOb, he] at hy
          obtain ⟨z, f1, f2, f3⟩ := h.sh.obs i y hy
          exact ⟨z, by simp [Gh.setSh, he, f1], by rw [heap_alloc_old w _ z (h.sh.lt (.inr ⟨i, y, hy, f1⟩))]; exact f2.mono hle, f3⟩
      inj := fun i j y z b hi hj e1 e2 => by
        by_cases a1 : i = n <;> by_cases a2 : j = n
        · rw [a1, a2]
        · exfalso
          simp [Sh.setOb, a2] at hj
          simp [Gh.setSh, a1] at e1
          simp [Gh.setSh, a2] at e2
          exact hs j z hj (e1 ▸ e2)
        · exfalso
          simp [Sh.setOb, a1] at hi
          simp [Gh.setSh, a1] at e1
          simp [Gh.setSh, a2] at e2
          exact hs i y hi (e2 ▸ e1)
        · simp [Sh.setOb, a1] at hi
          simp [Sh.setOb, a2] at hj
          simp [Gh.setSh, a1] at e1
          simp [Gh.setSh, a2] at e2
          exact h.sh.inj i j y z b hi hj e1 e2
      toks := fun t ht y fin lim hy => by
        have hy' : g.tok t = some (y, fin, lim) := hy
        have := h.sh.toks t ht y fin lim hy'
        rw [heap_alloc_old w _ y (h.sh.lt (.inl (h.sh.tokvec ht hy')))]
        exact this
      tinj := h.sh.tinj
      live := h.sh.live
      fresh := fun i hi => by
        have := hn.hi
        have h2 := h.sh.fresh i hi
        exact ⟨by simp [Gh.setSh, show i ≠ n by simp [Gh.setSh] at hi; omega, h2.1], h2.2⟩ }

/-- Shared objects, tokens are forgotten. -/
theorem Rel.forget (h : Rel B g blk E L σ tmps w) (ho : ∀ i o, σ'.ob i = some o → σ.ob i = some o) (hl : ∀ t, t ∈ σ'.live → t ∈ σ.live) : Rel B g blk E L σ' tmps w := by
  have wr : ∀ x, Wr g σ' x → Wr g σ x := fun x => by
    rintro (⟨i, y, hy, hs⟩ | ⟨t, ht, hx⟩)
    · exact .inl ⟨i, y, ho i y hy, hs⟩
    · exact .inr ⟨t, hl t ht, hx⟩
  refine h.step (Gh.le.refl g) ?_ ⟨rfl, rfl, rfl, Nat.le_refl _, fun _ _ _ => ⟨rfl, rfl⟩, fun x _ => wr x⟩ (Nums.refl _ _) ⟨fun t ht => .inl (hl t ht), fun i hi _ => by
    cases hh : σ'.ob i with
    | none => rfl
    | some o => rw [ho i o hh] at hi; cases hi⟩
  exact ⟨h.sh.vecs, fun i y hy => h.sh.obs i y (ho i y hy), fun i j x y b hi hj => h.sh.inj i j x y b (ho _ _ hi) (ho _ _ hj), fun t ht => h.sh.toks t (hl t ht),
    fun t t' b e e' ht ht' => h.sh.tinj t t' b e e' (hl t ht) (hl t' ht'), fun t ht => h.sh.live t (hl t ht), h.sh.fresh⟩

/-- A token that leads nowhere yet. -/
theorem Rel.void (h : Rel B g blk E L σ tmps w) {n : Nat} (hn : Free B g σ n) : Rel B g blk E L { σ with live := n :: σ.live } tmps w := by
  have wr : ∀ x, Wr g { σ with live := n :: σ.live } x → Wr g σ x := fun x => by
    rintro (hy | ⟨t, ht, e, hx⟩)
    · exact .inl hy
    · rcases List.mem_cons.1 ht with rfl | ht
      · rw [hn.tok] at hx; cases hx
      · exact .inr ⟨t, ht, e, hx⟩
  refine h.step (Gh.le.refl g) ?_ ⟨rfl, rfl, rfl, Nat.le_refl _, fun _ _ _ => ⟨rfl, rfl⟩, fun x _ => wr x⟩ (Nums.refl _ _) ⟨fun t ht => by
    rcases List.mem_cons.1 ht with rfl | ht
    · exact .inr hn.lo
    · exact .inl ht, fun _ h _ => h⟩
  refine ⟨h.sh.vecs, h.sh.obs, h.sh.inj, fun t ht b fin lim hb => ?_, fun t t' b e e' ht ht' h1 h2 => ?_, fun t ht => ?_, h.sh.fresh⟩
  · rcases List.mem_cons.1 ht with rfl | ht
    · rw [hn.tok] at hb; cases hb
    · exact h.sh.toks t ht b fin lim hb
  · rcases List.mem_cons.1 ht with rfl | ht
    · rw [hn.tok] at h1; cases h1
    · rcases List.mem_cons.1 ht' with rfl | ht'
      · rw [hn.tok] at h2; cases h2
      · exact h.sh.tinj t t' b e e' ht ht' h1 h2
  · rcases List.mem_cons.1 ht with rfl | ht
    · exact hn.hi
    · exact h.sh.live t ht

/-- A token for a block that is known up to 'fin', and may be written from there to 'lim'. -/
theorem Rel.mint (h : Rel B g blk E L σ tmps w) {n b fin lim : Nat} (hn : Free B g σ n) {c : List Value} (hc : g.vec b = some c) (hf : c.length = fin) {vals : Array Value} {T : TypeId}
    (hb : w.heap[b]? = some (.cells vals T (0, 0))) (hlim : lim ≤ vals.size) (hnew : b < B.w.heap.size → Wr B.g B.σ b) (hno : ∀ t, t ∈ σ.live → ∀ x, g.tok t ≠ some (b, x)) :
    Rel B (g.setTok n (b, fin, lim)) blk E L { σ with live := n :: σ.live } tmps w where
  size := h.size
  slots s v hv := by
    obtain ⟨x, h1, h2⟩ := h.slots s v hv
    exact ⟨x, h1, h2.mono (Gh.le_setTok hn.tok)⟩
  locs k cs hk := by
    obtain ⟨b', h1, h2, h3, h4, h5⟩ := h.locs k cs hk
    exact ⟨b', h1, h2, h3.mono (Gh.le_setTok hn.tok), h4, h5⟩
  linj := h.linj
  sh :=
    { vecs := h.sh.vecs
      obs := fun i y hy => by
        obtain ⟨z, f1, f2, f3⟩ := h.sh.obs i y hy
        exact ⟨z, f1, f2.mono (Gh.le_setTok hn.tok), f3⟩
      inj := h.sh.inj
      toks := fun t ht x fi li hx => by
        by_cases he : t = n
        · subst he
          simp [Gh.setTok] at hx
          obtain ⟨rfl, rfl, rfl⟩ := hx
          exact ⟨c, vals, T, hc, hf, hb, hlim⟩
        · have ht' : t ∈ σ.live := by simpa [he] using ht
          simp [Gh.setTok, he] at hx
          exact h.sh.toks t ht' x fi li hx
      tinj := fun t t' x e e' ht ht' h1 h2 => by
        by_cases a1 : t = n <;> by_cases a2 : t' = n
        · rw [a1, a2]
        · exfalso
          have ht2 : t' ∈ σ.live := by simpa [a2] using ht'
          simp [Gh.setTok, a1] at h1
          simp [Gh.setTok, a2] at h2
          exact hno t' ht2 e' (h1.1 ▸ h2)
        · exfalso
          have ht1 : t ∈ σ.live := by simpa [a1] using ht
          simp [Gh.setTok, a2] at h2
          simp [Gh.setTok, a1] at h1
          exact hno t ht1 e (h2.1 ▸ h1)
        · have ht1 : t ∈ σ.live := by simpa [a1] using ht
          have ht2 : t' ∈ σ.live := by simpa [a2] using ht'
          simp [Gh.setTok, a1] at h1
          simp [Gh.setTok, a2] at h2
          exact h.sh.tinj t t' x e e' ht1 ht2 h1 h2
      live := fun t ht => by
        rcases List.mem_cons.1 ht with rfl | ht
        · exact hn.hi
        · exact h.sh.live t ht
      fresh := fun i hi => by
        have := hn.hi
        have h2 := h.sh.fresh i hi
        exact ⟨h2.1, by simp [Gh.setTok, show i ≠ n by simp [Gh.setTok] at hi; omega, h2.2]⟩ }
  ext := h.ext.trans (Gh.le_setTok hn.tok)
  nums := h.nums.trans fun i hi => ⟨rfl, by have := hn.lo; simp [Gh.setTok, show i ≠ n by omega]⟩
  frame := by
    have f := h.frame
    refine ⟨f.os, f.tape, f.output, f.size, f.keep, fun x hx hw => ?_⟩
    rcases hw with hy | ⟨t, ht, e, hx'⟩
    · exact f.own x hx (.inl hy)
    · by_cases he : t = n
      · subst he
        simp [Gh.setTok] at hx'
        obtain ⟨rfl, _⟩ := hx'
        exact hnew hx
      · have ht1 : t ∈ σ.live := by simpa [he] using ht
        simp [Gh.setTok, he] at hx'
        exact f.own x hx (.inr ⟨t, ht1, e, hx'⟩)
  old := h.old.trans ⟨fun t ht => by
    rcases List.mem_cons.1 ht with rfl | ht
    · exact .inr hn.lo
    · exact .inl ht, fun _ h _ => h⟩

/-- An append in place: what lies behind the end of a block is written; the token is used up. -/
theorem Rel.extend (h : Rel B g blk E L σ tmps w) {t b fin lim : Nat} (ht : t ∈ σ.live) (hb : g.tok t = some (b, fin, lim)) {c news : List Value} (hc : g.vec b = some c) {vals vals' : Array Value} {T : TypeId}
    (hw : w.heap[b]? = some (.cells vals T (0, 0))) (hv : c ++ news <+: vals'.toList) :
    Rel B (g.setVec b (c ++ news)) blk E L { σ with live := σ.live.filter (· ≠ t) } tmps (w.setRow b vals') := by
  have hle0 : ∀ c0, g.vec b = some c0 → c0 <+: c ++ news := fun c0 h0 => by rw [hc] at h0; cases h0; exact List.prefix_append _ _
  have hle := Gh.le_setVec hle0
  have hbw : Wr g σ b := .inr ⟨t, ht, _, hb⟩
  have hmem : ∀ t', t' ∈ σ.live.filter (· ≠ t) → t' ∈ σ.live ∧ t' ≠ t := fun t' h' => by simpa using List.mem_filter.1 h'
  have hnb : ∀ t', t' ∈ σ.live.filter (· ≠ t) → ∀ x, g.tok t' ≠ some (b, x) := fun t' h' x hx => (hmem t' h').2 (h.sh.tinj t' t b x _ (hmem t' h').1 ht hx hb)
  have hob : ∀ id o, σ.ob id = some o → g.sh id ≠ some b := fun id o ho hs => by
    obtain ⟨b', h1, _, h3⟩ := h.sh.obs id o ho
    rw [h1] at hs
    cases hs
    rw [hc] at h3
    cases h3
  refine h.step hle ?_ ⟨rfl, rfl, rfl, by simp, fun x _ hn => ?_, fun x _ hx => ?_⟩ (fun _ _ => ⟨rfl, rfl⟩) ⟨fun t' h' => .inl (hmem t' h').1, fun _ h _ => h⟩
  · exact
      { vecs := fun x l hx => by
          by_cases he : x = b
          · subst he
            simp [Gh.setVec] at hx
            subst hx
            exact ⟨vals', T, _, setRow_at hw vals', hv⟩
          · simp [Gh.setVec, he] at hx
            rw [setRow_ne _ _ _ _ he]
            exact h.sh.vecs x l hx
        obs := fun i y hy => by
          obtain ⟨z, f1, f2, f3⟩ := h.sh.obs i y hy
          have hz : z ≠ b := fun e => hob i y hy (e ▸ f1)
          exact ⟨z, f1, by rw [setRow_ne _ _ _ _ hz]; exact f2.mono hle, by simp [Gh.setVec, hz, f3]⟩
        inj := h.sh.inj
        toks := fun t' h' x fi li hx => by
          have hx' : g.tok t' = some (x, fi, li) := hx
          have hz : x ≠ b := fun e => hnb t' h' (fi, li) (e ▸ hx')
          obtain ⟨c', v', T', f1, f2, f3, f4⟩ := h.sh.toks t' (hmem t' h').1 x fi li hx'
          exact ⟨c', v', T', by simp [Gh.setVec, hz, f1], f2, by rw [setRow_ne _ _ _ _ hz]; exact f3, f4⟩
        tinj := fun t₁ t₂ x e e' h₁ h₂ => h.sh.tinj t₁ t₂ x e e' (hmem _ h₁).1 (hmem _ h₂).1
        live := fun t' h' => h.sh.live t' (hmem t' h').1
        fresh := h.sh.fresh }
  · have hz : x ≠ b := fun e => hn (e ▸ hbw)
    exact ⟨setRow_ne _ _ _ _ hz, by simp [Gh.setVec, hz]⟩
  · rcases hx with hy | ⟨t', h', e, hx'⟩
    · exact .inl hy
    · exact .inr ⟨t', (hmem t' h').1, e, hx'⟩

end rel
end Go.Am
