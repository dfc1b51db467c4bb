/- What functions of this program compute, a part: see the main text. No conditions. -/
import Derived.Orders
import Derived.Below
set_option linter.all false
set_option maxRecDepth 100000
namespace Go.Am
open Go

inductive Tag where
  | no
  | full
  | tok (t : Nat)
  deriving Inhabited

inductive AV where
  | bool (b : Bool)
  | int (k : IntKind) (n : Int)
  | str (s : List UInt8)
  | agg (cs : List AV)
  | list (es : List AV) (tag : Tag)
  | eref (cs : List AV)
  | lref (k : Nat) (off : Nat)
  | ptr (id : Nat) (off : Nat)
  | nilp
  | map (id : Nat)
  | nilmap
  | func (fn : Fn) (caps : List AV)
  | nilf
  | tuple (vs : List AV)
  | sl (id n : Nat)
  | bsl (id n cap : Nat)
  | nils0
  | nili
  deriving Inhabited

def AV.cells : AV → List AV
  | .agg cs => cs
  | v => [v]

/-- The ghost of the memory: of a block the beginning that never turns again; of a shared object its block; of a token the block and its end; the next number. -/
structure Gh where
  vec : Nat → Option (List Value)
  sh : Nat → Option Nat
  tok : Nat → Option (Nat × Nat × Nat)
  nt : Nat

def Tag.fits (g : Gh) (b off sz len cap : Nat) : Tag → Prop
  | .no => True
  | .full => cap = len
  | .tok t => cap = 0 ∨ (0 < len ∧ g.tok t = some (b, off + len * sz, off + cap * sz))

inductive VR (g : Gh) : AV → Value → Prop where
  | bool (b : Bool) : VR g (.bool b) (.bool b)
  | int (k : IntKind) (n : Int) : VR g (.int k n) (.int k n)
  | str (s : List UInt8) : VR g (.str s) (.string ⟨s.toArray⟩)
  | agg (cs : List AV) (vs : Array Value) (hl : vs.size = cs.length) (h : ∀ i, i < cs.length → VR g (cs.getD i default) (vs.getD i undef)) : VR g (.agg cs) (.agg vs)
  | tuple (cs : List AV) (vs : Array Value) (hl : vs.size = cs.length) (h : ∀ i, i < cs.length → VR g (cs.getD i default) (vs.getD i undef)) : VR g (.tuple cs) (.tuple vs)
  | nils (tag : Tag) : VR g (.list [] tag) (.slice none 0 0)
  | list (sz : Nat) (es : List AV) (tag : Tag) (b off cap : Nat) (c : List Value) (hc : g.vec b = some c) (hle : off + es.length * sz ≤ c.length)
      (hcap : es.length ≤ cap) (hmax : cap ≤ maxLen) (htag : tag.fits g b off sz es.length cap) (hsz : ∀ i, i < es.length → ((es.getD i default).cells).length = sz)
      (h : ∀ i j, i < es.length → j < sz → VR g ((es.getD i default).cells.getD j default) (c.getD (off + i * sz + j) undef)) :
      VR g (.list es tag) (.slice (some ⟨b, off, none⟩) es.length cap)
  | eref (cs : List AV) (b off : Nat) (c : List Value) (hc : g.vec b = some c) (hle : off + cs.length ≤ c.length)
      (h : ∀ i, i < cs.length → VR g (cs.getD i default) (c.getD (off + i) undef)) : VR g (.eref cs) (.pointer (some ⟨b, off, none⟩))
  | ptr (id off b : Nat) (hb : g.sh id = some b) : VR g (.ptr id off) (.pointer (some ⟨b, off, none⟩))
  | nilp : VR g .nilp (.pointer none)
  | map (id b : Nat) (hb : g.sh id = some b) : VR g (.map id) (.map (some b))
  | nilmap : VR g .nilmap (.map none)
  | func (fn : Fn) (cs : List AV) (vs : Array Value) (hl : vs.size = cs.length) (h : ∀ i, i < cs.length → VR g (cs.getD i default) (vs.getD i undef)) : VR g (.func fn cs) (.func fn #[] vs)
  | nilf : VR g .nilf .nilFunc
  | sl (id n b : Nat) (hb : g.sh id = some b) : VR g (.sl id n) (.slice (some ⟨b, 0, none⟩) n n)
  | bsl (id n cap b : Nat) (hb : g.sh id = some b) : VR g (.bsl id n cap) (.slice (some ⟨b, 0, none⟩) n cap)
  | nils0 : VR g .nils0 (.slice none 0 0)
  | nili : VR g .nili .nilIface

structure Gh.le (g g' : Gh) : Prop where
  vec : ∀ b c, g.vec b = some c → ∃ c', g'.vec b = some c' ∧ c <+: c'
  sh : ∀ i b, g.sh i = some b → g'.sh i = some b
  tok : ∀ t x, g.tok t = some x → g'.tok t = some x
  nt : g.nt ≤ g'.nt

theorem Gh.le.refl (g : Gh) : g.le g := ⟨fun _ c h => ⟨c, h, List.prefix_refl _⟩, fun _ _ h => h, fun _ _ h => h, Nat.le_refl _⟩
theorem Gh.le.trans {a b c : Gh} (h : a.le b) (k : b.le c) : a.le c :=
  ⟨fun x l hx => by
    obtain ⟨l1, h1, p1⟩ := h.vec x l hx
    obtain ⟨l2, h2, p2⟩ := k.vec x l1 h1
    exact ⟨l2, h2, p1.trans p2⟩, fun i x hx => k.sh i x (h.sh i x hx), fun i x hx => k.tok i x (h.tok i x hx), Nat.le_trans h.nt k.nt⟩

theorem getD_of_prefix {α : Type} {c c' : List α} (h : c <+: c') (d : α) {i : Nat} (hi : i < c.length) : c'.getD i d = c.getD i d := by
  obtain ⟨t, rfl⟩ := h
  simp [List.getD, List.getElem?_append_left hi]

theorem Tag.fits.mono {g g' : Gh} (hg : g.le g') {b off sz len cap : Nat} {t : Tag} (h : t.fits g b off sz len cap) : t.fits g' b off sz len cap := by
  cases t with
  | no => trivial
  | full => exact h
  | tok t => exact h.imp id fun h => ⟨h.1, hg.tok _ _ h.2⟩

theorem VR.mono {g g' : Gh} (hg : g.le g') {a : AV} {v : Value} (h : VR g a v) : VR g' a v := by
  induction h with
  | bool b => exact .bool b
  | int k n => exact .int k n
  | str s => exact .str s
  | agg cs vs hl _ ih => exact .agg cs vs hl ih
  | tuple cs vs hl _ ih => exact .tuple cs vs hl ih
  | nils tag => exact .nils tag
  | list sz es tag b off cap c hc hle hcap hmax htag hsz h ih =>
    obtain ⟨c', hc', hp⟩ := hg.vec b c hc
    refine .list sz es tag b off cap c' hc' (Nat.le_trans hle hp.length_le) hcap hmax (htag.mono hg) hsz fun i j hi hj => ?_
    have hlt : off + i * sz + j < c.length := by
      have : (i + 1) * sz ≤ es.length * sz := Nat.mul_le_mul_right _ hi
      rw [Nat.add_mul, Nat.one_mul] at this
      omega
    rw [getD_of_prefix hp _ hlt]
    exact ih i j hi hj
  | eref cs b off c hc hle h ih =>
    obtain ⟨c', hc', hp⟩ := hg.vec b c hc
    refine .eref cs b off c' hc' (Nat.le_trans hle hp.length_le) fun i hi => ?_
    rw [getD_of_prefix hp _ (by omega)]
    exact ih i hi
  | ptr id off b hb => exact .ptr id off b (hg.sh id b hb)
  | nilp => exact .nilp
  | map id b hb => exact .map id b (hg.sh id b hb)
  | nilmap => exact .nilmap
  | func fn cs vs hl _ ih => exact .func fn cs vs hl ih
  | nilf => exact .nilf
  | sl id n b hb => exact .sl id n b (hg.sh id b hb)
  | bsl id n cap b hb => exact .bsl id n cap b (hg.sh id b hb)
  | nils0 => exact .nils0
  | nili => exact .nili

/-! ### the frame's state -/

abbrev Env := List (Nat × AV)
def Env.get : Env → Nat → Option AV
  | [], _ => none
  | (k, v) :: E, s => if s = k then some v else Env.get E s

/-- An object in memory: a row of cells; a map, its entries in their order. -/
inductive Ob where
  | cells (cs : List AV)
  | map (es : List (AV × AV))
  | bld (T : TypeId) (cs : List AV)
  deriving Inhabited

/-- What is shared: the objects by their numbers; the tokens by which may be appended. -/
structure Sh where
  ob : Nat → Option Ob
  live : List Nat

/-- The frame's own boxes, each by the slot that leads to it. -/
abbrev Boxes := List (Nat × List AV)
def Boxes.get : Boxes → Nat → Option (List AV)
  | [], _ => none
  | (k, v) :: L, s => if s = k then some v else Boxes.get L s

structure Ob.cellsAre (g : Gh) (cs : List AV) (o : Option Obj) : Prop where
  ex : ∃ vals T, o = some (.cells vals T (0, 0)) ∧ vals.size = cs.length ∧ ∀ i, i < cs.length → VR g (cs.getD i default) (vals.getD i undef)

def Ob.is (g : Gh) : Ob → Option Obj → Prop
  | .cells cs, o => Ob.cellsAre g cs o
  | .map es, o => ∃ ents clock, o = some (.map ents clock) ∧ ents.size = es.length ∧
      ∀ i, i < es.length → VR g (es.getD i default).1 (ents.getD i default).key ∧ VR g (es.getD i default).2 (ents.getD i default).val
  | .bld T cs, o => ∃ vals, o = some (.cells vals T (0, 0)) ∧ vals.size = cs.length ∧ ∀ i, i < cs.length → VR g (cs.getD i default) (vals.getD i undef)

theorem Ob.cellsAre.mono {g g' : Gh} (hg : g.le g') {cs : List AV} {o : Option Obj} (h : Ob.cellsAre g cs o) : Ob.cellsAre g' cs o := by
  obtain ⟨vals, T, h1, h2, h3⟩ := h.ex
  exact ⟨vals, T, h1, h2, fun i hi => (h3 i hi).mono hg⟩

theorem Ob.is.mono {g g' : Gh} (hg : g.le g') {x : Ob} {o : Option Obj} (h : x.is g o) : x.is g' o := by
  cases x with
  | cells cs => exact Ob.cellsAre.mono hg h
  | map es =>
    obtain ⟨ents, clock, h1, h2, h3⟩ := h
    exact ⟨ents, clock, h1, h2, fun i hi => ⟨(h3 i hi).1.mono hg, (h3 i hi).2.mono hg⟩⟩
  | bld T cs =>
    obtain ⟨vals, h1, h2, h3⟩ := h
    exact ⟨vals, h1, h2, fun i hi => (h3 i hi).mono hg⟩

/-- Which blocks the shared state may turn. -/
def Wr (g : Gh) (σ : Sh) (b : Nat) : Prop := (∃ id o, σ.ob id = some o ∧ g.sh id = some b) ∨ ∃ t, t ∈ σ.live ∧ ∃ e, g.tok t = some (b, e)

structure ShRel (g : Gh) (σ : Sh) (w : World) : Prop where
  vecs : ∀ b c, g.vec b = some c → ∃ vals T fr, w.heap[b]? = some (.cells vals T fr) ∧ c <+: vals.toList
  obs : ∀ id o, σ.ob id = some o → ∃ b, g.sh id = some b ∧ o.is g w.heap[b]? ∧ g.vec b = none
  inj : ∀ id id' o o' b, σ.ob id = some o → σ.ob id' = some o' → g.sh id = some b → g.sh id' = some b → id = id'
  toks : ∀ t, t ∈ σ.live → ∀ b fin lim, g.tok t = some (b, fin, lim) → ∃ c vals T, g.vec b = some c ∧ c.length = fin ∧ w.heap[b]? = some (.cells vals T (0, 0)) ∧ lim ≤ vals.size
  tinj : ∀ t t' b e e', t ∈ σ.live → t' ∈ σ.live → g.tok t = some (b, e) → g.tok t' = some (b, e') → t = t'
  live : ∀ t, t ∈ σ.live → t < g.nt
  fresh : ∀ n, g.nt ≤ n → g.sh n = none ∧ g.tok n = none

/-- From one shared state and world to another one: what neither may turn is as it was. -/
structure FrameC (g : Gh) (σ : Sh) (w : World) (g' : Gh) (σ' : Sh) (w' : World) : Prop where
  os : w'.os = w.os
  tape : w'.tape = w.tape
  output : w'.output = w.output
  size : w.heap.size ≤ w'.heap.size
  keep : ∀ b, b < w.heap.size → ¬ Wr g σ b → w'.heap[b]? = w.heap[b]? ∧ g'.vec b = g.vec b
  own : ∀ b, b < w.heap.size → Wr g' σ' b → Wr g σ b

theorem FrameC.refl (g : Gh) (σ : Sh) (w : World) : FrameC g σ w g σ w := ⟨rfl, rfl, rfl, Nat.le_refl _, fun _ _ _ => ⟨rfl, rfl⟩, fun _ _ h => h⟩
theorem FrameC.trans {g₁ g₂ g₃ : Gh} {σ₁ σ₂ σ₃ : Sh} {w₁ w₂ w₃ : World} (h : FrameC g₁ σ₁ w₁ g₂ σ₂ w₂) (k : FrameC g₂ σ₂ w₂ g₃ σ₃ w₃) : FrameC g₁ σ₁ w₁ g₃ σ₃ w₃ :=
  ⟨k.os.trans h.os, k.tape.trans h.tape, k.output.trans h.output, Nat.le_trans h.size k.size,
    fun b hb hn => by
      have hb' : b < w₂.heap.size := Nat.lt_of_lt_of_le hb h.size
      have hn' : ¬ Wr g₂ σ₂ b := fun hw => hn (h.own b hb hw)
      exact ⟨(k.keep b hb' hn').1.trans (h.keep b hb hn).1, (k.keep b hb' hn').2.trans (h.keep b hb hn).2⟩,
    fun b hb hw => h.own b hb (k.own b (Nat.lt_of_lt_of_le hb h.size) hw)⟩

/-- The numbers that were given out before are as they were. -/
def Nums (n : Nat) (g g' : Gh) : Prop := ∀ i, i < n → g'.sh i = g.sh i ∧ g'.tok i = g.tok i
theorem Nums.trans {n : Nat} {a b c : Gh} (h : Nums n a b) (k : Nums n b c) : Nums n a c := fun i hi => ⟨(k i hi).1.trans (h i hi).1, (k i hi).2.trans (h i hi).2⟩
theorem Nums.mono {n m : Nat} {a b : Gh} (h : Nums n a b) (hm : m ≤ n) : Nums m a b := fun i hi => h i (Nat.lt_of_lt_of_le hi hm)
theorem Nums.refl (n : Nat) (g : Gh) : Nums n g g := fun _ _ => ⟨rfl, rfl⟩

/-- What is shared is what was, or has a new number. -/
structure Old (n : Nat) (σ σ' : Sh) : Prop where
  live : ∀ t, t ∈ σ'.live → t ∈ σ.live ∨ n ≤ t
  ob : ∀ i, σ.ob i = none → i < n → σ'.ob i = none
theorem Old.refl (n : Nat) (σ : Sh) : Old n σ σ := ⟨fun _ h => .inl h, fun _ h _ => h⟩
theorem Old.trans {n : Nat} {a b c : Sh} (h : Old n a b) (k : Old n b c) : Old n a c :=
  ⟨fun t ht => by
    rcases k.live t ht with h1 | h1
    · exact h.live t h1
    · exact .inr h1, fun i hi hn => k.ob i (h.ob i hi hn) hn⟩
theorem Old.mono {n m : Nat} {a b : Sh} (h : Old n a b) (hm : m ≤ n) : Old m a b := ⟨fun t ht => (h.live t ht).imp id (Nat.le_trans hm), fun i hi hn => h.ob i hi (Nat.lt_of_lt_of_le hn hm)⟩

/-- Where a function began: the ghost, the shared state, the world, how many slots it has. -/
structure Base where
  g : Gh
  σ : Sh
  w : World
  n : Nat

/-- What a slot holds: besides the values, an address into one of the frame's own boxes. -/
def SR (g : Gh) (blk : Nat → Option Nat) : AV → Value → Prop
  | .lref k off, x => ∃ b, blk k = some b ∧ x = .pointer (some ⟨b, off, none⟩)
  | v, x => VR g v x

theorem SR.mono {g g' : Gh} (hg : g.le g') {blk : Nat → Option Nat} {v : AV} {x : Value} (h : SR g blk v x) : SR g' blk v x := by
  cases v <;> first | exact h | exact VR.mono hg h

structure Rel (B : Base) (g : Gh) (blk : Nat → Option Nat) (E : Env) (L : Boxes) (σ : Sh) (tmps : Array Value) (w : World) : Prop where
  size : tmps.size = B.n
  slots : ∀ s v, E.get s = some v → ∃ x, tmps[s]? = some x ∧ SR g blk v x
  locs : ∀ k cs, L.get k = some cs → ∃ b, blk k = some b ∧ B.w.heap.size ≤ b ∧ Ob.cellsAre g cs w.heap[b]? ∧ g.vec b = none ∧ ∀ id o, σ.ob id = some o → g.sh id ≠ some b
  linj : ∀ k k' cs cs' b, L.get k = some cs → L.get k' = some cs' → blk k = some b → blk k' = some b → k = k'
  sh : ShRel g σ w
  ext : B.g.le g
  nums : Nums B.g.nt B.g g
  frame : FrameC B.g B.σ B.w g σ w
  old : Old B.g.nt B.σ σ

/-- What holds behind a piece of code, whatever the world is. -/
def Lift (B : Base) (Q : Exit → Env → Boxes → Sh → Prop) : Exit → Act → World → Prop :=
  fun e a w => a.defers = [] ∧ ∃ g blk E L σ, Rel B g blk E L σ a.tmps w ∧ Q e E L σ

def awp (P : Program) (B : Base) (c : Code) (Q : Exit → Env → Boxes → Sh → Prop) (E : Env) (L : Boxes) (σ : Sh) : Prop :=
  ∀ g blk tmps w, Rel B g blk E L σ tmps w → c.wp P (Lift B Q) ⟨tmps, []⟩ w

/-! ### control -/
section
variable {P : Program} {B : Base} {Q : Exit → Env → Boxes → Sh → Prop} {E : Env} {L : Boxes} {σ : Sh}

theorem awp_mono {c : Code} {Q' : Exit → Env → Boxes → Sh → Prop} (h : awp P B c Q E L σ) (hq : ∀ e E L σ, Q e E L σ → Q' e E L σ) : awp P B c Q' E L σ :=
  fun g blk tmps w hr => wp_mono (h g blk tmps w hr) fun _ _ _ ⟨hd, g, blk, E, L, σ, hr, q⟩ => ⟨hd, g, blk, E, L, σ, hr, hq _ _ _ _ q⟩

def Then (K : Env → Boxes → Sh → Prop) (Q : Exit → Env → Boxes → Sh → Prop) : Exit → Env → Boxes → Sh → Prop
  | .normal, E, L, σ => K E L σ
  | e, E, L, σ => Q e E L σ

theorem awp_seq {x y : Code} (h : awp P B x (Then (awp P B y Q) Q) E L σ) : awp P B (.seq x y) Q E L σ := by
  intro g blk tmps w hr
  refine wp_seq (wp_mono (h g blk tmps w hr) ?_)
  rintro e ⟨tm, df⟩ w' ⟨hd, g', blk', E', L', σ', hr', q⟩
  cases e with
  | normal =>
    obtain rfl : df = [] := hd
    exact q g' blk' tm w' hr'
  | exit id => exact ⟨hd, g', blk', E', L', σ', hr', q⟩
  | goto l => exact ⟨hd, g', blk', E', L', σ', hr', q⟩
  | ret => exact ⟨hd, g', blk', E', L', σ', hr', q⟩
  | panic c => exact ⟨hd, g', blk', E', L', σ', hr', q⟩
  | outgrown => exact ⟨hd, g', blk', E', L', σ', hr', q⟩

theorem awp_seq_k {x y : Code} (h : ∀ K : Env → Boxes → Sh → Prop, (∀ E L σ, awp P B y Q E L σ → K E L σ) → awp P B x (Then K Q) E L σ) : awp P B (.seq x y) Q E L σ :=
  awp_seq (h _ fun _ _ _ h => h)

theorem awp_skip (h : Q .normal E L σ) : awp P B .skip Q E L σ := fun g blk _ _ hr => wp_skip ⟨rfl, g, blk, E, L, σ, hr, h⟩
theorem awp_label {l : Nat} (h : Q .normal E L σ) : awp P B (.label l) Q E L σ := fun g blk _ _ hr => wp_label ⟨rfl, g, blk, E, L, σ, hr, h⟩
theorem awp_exit {id : Nat} (h : Q (.exit id) E L σ) : awp P B (.exit id) Q E L σ := fun g blk _ _ hr => wp_exit ⟨rfl, g, blk, E, L, σ, hr, h⟩
theorem awp_ret (h : Q .ret E L σ) : awp P B .ret Q E L σ := fun g blk _ _ hr => wp_ret ⟨rfl, g, blk, E, L, σ, hr, h⟩

/-- What a written value is. -/
def ofV1 : Value → Option AV
  | .bool b => some (.bool b)
  | .int k n => some (.int k n)
  | .string s => some (.str s.data.toList)
  | .slice none 0 0 => some (.list [] .full)
  | .pointer none => some .nilp
  | .map none => some .nilmap
  | .nilFunc => some .nilf
  | .nilIface => some .nili
  | _ => none
def ofVs : List Value → Option (List AV)
  | [] => some []
  | v :: vs => match ofV1 v, ofVs vs with
    | some a, some l => some (a :: l)
    | _, _ => none
def ofV : Value → Option AV
  | .agg cs => (ofVs cs.toList).map .agg
  | v => ofV1 v

theorem ofV1_ok {g : Gh} {v : Value} {a : AV} (h : ofV1 v = some a) : VR g a v := by
  cases v with
  | bool b => cases h; exact .bool b
  | int k n => cases h; exact .int k n
  | string s => cases h; obtain ⟨d⟩ := s; exact .str d.toList
  | slice x n m =>
    cases x with
    | some x => simp [ofV1] at h
    | none =>
      cases n with
      | succ n => simp [ofV1] at h
      | zero =>
        cases m with
        | succ m => simp [ofV1] at h
        | zero => simp [ofV1] at h; subst h; exact .nils _
  | pointer x => cases x <;> simp [ofV1] at h; subst h; exact .nilp
  | map x => cases x <;> simp [ofV1] at h; subst h; exact .nilmap
  | nilFunc => cases h; exact .nilf
  | nilIface => cases h; exact .nili
  | _ => simp [ofV1] at h

theorem ofVs_ok {g : Gh} : ∀ {vs : List Value} {as : List AV}, ofVs vs = some as → vs.length = as.length ∧ ∀ i, i < as.length → VR g (as.getD i default) (vs.getD i undef)
  | [], as, h => by cases h; exact ⟨rfl, fun i hi => absurd hi (by simp)⟩
  | v :: vs, as, h => by
    simp only [ofVs] at h
    split at h
    · rename_i a l h1 h2
      cases h
      obtain ⟨e1, e2⟩ := ofVs_ok (g := g) h2
      refine ⟨by simp [e1], fun i hi => ?_⟩
      cases i with
      | zero => exact ofV1_ok h1
      | succ i => exact e2 i (by simpa using hi)
    · cases h

theorem ofV_ok {g : Gh} {v : Value} {a : AV} (h : ofV v = some a) : VR g a v := by
  cases v with
  | agg cs =>
    simp only [ofV, Option.map_eq_some_iff] at h
    obtain ⟨l, h1, rfl⟩ := h
    obtain ⟨e1, e2⟩ := ofVs_ok (g := g) h1
    exact .agg l cs (by simpa using e1) fun i hi => by simpa using e2 i hi
  | _ => exact ofV1_ok h

/-- What an operand is. -/
def look (E : Env) : Operand → Option AV
  | .tmp t => E.get t
  | .const v => ofV v
  | .global _ => none
  | .func f => some (.func (.func f) [])

theorem look_ok {g : Gh} {blk : Nat → Option Nat} {tmps : Array Value} {w : World} (hr : Rel B g blk E L σ tmps w) {x : Operand} {v : AV} (h : look E x = some v) : SR g blk v (Act.eval ⟨tmps, []⟩ x) := by
  cases x with
  | tmp t =>
    obtain ⟨u, h1, h2⟩ := hr.slots t _ h
    simpa [Act.eval, h1] using h2
  | const c =>
    have := ofV_ok (g := g) h
    cases v <;> first | exact this | cases this
  | global => cases h
  | func f => cases h; exact .func _ [] #[] rfl (fun i hi => absurd hi (by simp))

theorem awp_cond {c : Operand} {x y : Code} {b : Bool} (hc : look E c = some (.bool b)) (ht : b = true → awp P B x Q E L σ) (hf : b = false → awp P B y Q E L σ) :
    awp P B (.cond c x y) Q E L σ := by
  intro g blk tmps w hr
  have he : (Act.eval ⟨tmps, []⟩ c) = .bool b := by
    have := look_ok hr hc
    generalize Act.eval ⟨tmps, []⟩ c = u at this
    cases this
    rfl
  cases b with
  | true => exact wp_cond (t := true) he (ht rfl g blk tmps w hr)
  | false => exact wp_cond (t := false) he (hf rfl g blk tmps w hr)

def InBlock (id : Nat) (Q : Exit → Env → Boxes → Sh → Prop) : Exit → Env → Boxes → Sh → Prop
  | .exit id', E, L, σ => if id' = id then Q .normal E L σ else Q (.exit id') E L σ
  | e, E, L, σ => Q e E L σ

theorem awp_block {id : Nat} {c : Code} (h : awp P B c (InBlock id Q) E L σ) : awp P B (.block id c) Q E L σ := by
  intro g blk tmps w hr
  refine wp_block (wp_mono (h g blk tmps w hr) ?_)
  rintro e a w' ⟨hd, g', blk', E', L', σ', hr', q⟩
  cases e with
  | exit id' =>
    simp only [InBlock] at q
    simp only [Exit.inBlock]
    split
    · rename_i h; rw [if_pos h] at q; exact ⟨hd, g', blk', E', L', σ', hr', q⟩
    · rename_i h; rw [if_neg h] at q; exact ⟨hd, g', blk', E', L', σ', hr', q⟩
  | _ => exact ⟨hd, g', blk', E', L', σ', hr', q⟩

theorem awp_loop {c : Code} (I : Env → Boxes → Sh → Prop) (μ : Env → Boxes → Sh → Nat) (h₀ : I E L σ)
    (round : ∀ E L σ, I E L σ → awp P B c (Then (fun E' L' σ' => I E' L' σ' ∧ μ E' L' σ' < μ E L σ) Q) E L σ) : awp P B (.loop c) Q E L σ := by
  intro g blk tmps w hr b k cs
  have key : ∀ n E L σ, μ E L σ = n → I E L σ → ∀ g blk tmps w, Rel B g blk E L σ tmps w →
      ∃ e a' w', Lift B Q e a' w' ∧ Arrives P (lone (b.at ⟨tmps, []⟩ (.code c :: .inLoop c :: k)) cs w) b k cs e a' w' := by
    intro n
    induction n using Nat.strongRecOn with
    | _ n ih =>
      intro E L σ hn hI g blk tmps w hr
      obtain ⟨e, a₁, w₁, ⟨hd, g', blk', E', L', σ', hr', q⟩, harr⟩ := round E L σ hI g blk tmps w hr b (.inLoop c :: k) cs
      cases e with
      | normal =>
        obtain ⟨hI', hlt⟩ := q
        obtain ⟨tm, df⟩ := a₁
        obtain rfl : df = [] := hd
        obtain ⟨e₂, a₂, w₂, hq₂, harr₂⟩ := ih (μ E' L' σ') (hn ▸ hlt) E' L' σ' rfl hI' g' blk' tm w₁ hr'
        exact ⟨e₂, a₂, w₂, hq₂, .of_steps (Steps.trans harr (.one step_inLoop)) harr₂⟩
      | exit id => exact ⟨_, a₁, w₁, ⟨hd, g', blk', E', L', σ', hr', q⟩, .pass (x := .inLoop c) rfl (fun _ _ => .inl (by simp)) harr⟩
      | goto l => exact ⟨_, a₁, w₁, ⟨hd, g', blk', E', L', σ', hr', q⟩, .pass (x := .inLoop c) rfl (fun _ _ => .inl (by simp)) harr⟩
      | ret => exact ⟨_, a₁, w₁, ⟨hd, g', blk', E', L', σ', hr', q⟩, .pass (x := .inLoop c) rfl (fun _ _ => .inl (by simp)) harr⟩
      | panic ch => exact ⟨_, a₁, w₁, ⟨hd, g', blk', E', L', σ', hr', q⟩, .pass (x := .inLoop c) rfl (fun _ _ => .inl (by simp)) harr⟩
      | outgrown => exact ⟨_, a₁, w₁, ⟨hd, g', blk', E', L', σ', hr', q⟩, .pass (x := .inLoop c) rfl (fun _ _ => .inl (by simp)) harr⟩
  obtain ⟨e, a', w', hq, harr⟩ := key _ E L σ rfl h₀ g blk tmps w hr
  exact ⟨e, a', w', hq, .of_steps (.one step_loop) harr⟩
end
end Go.Am
