/- What functions of this program compute, a part: see the main text. No conditions. -/
import Derived.Test.YtanpeaakmdffcaaGreatW02
import Derived.WalkSpells
set_option linter.all false
set_option maxRecDepth 100000
namespace Go.Am
open Go

def tfunc (P : Program) (t : TypeId) : Bool := match P.underlying t with | some (.func ..) => true | _ => false
def tmap (P : Program) (t : TypeId) : Option (TypeId × TypeId) := (P.underlying t).bind fun | .map k e => some (k, e) | _ => none

def aint (op : BinOp) (k : IntKind) (a : Int) (k' : IntKind) (b : Int) : Option AV :=
  match op with
  | .shl => if b < 0 then none else some (.int k (k.wrap (a * 2 ^ (min b.toNat k.bits))))
  | .shr => if b < 0 then none else some (.int k (a.fdiv (2 ^ (min b.toNat k.bits))))
  | .add => if k = k' then some (.int k (k.wrap (a + b))) else none
  | .sub => if k = k' then some (.int k (k.wrap (a - b))) else none
  | .mul => if k = k' then some (.int k (k.wrap (a * b))) else none
  | .quo => if k = k' ∧ b ≠ 0 then some (.int k (k.wrap (a.tdiv b))) else none
  | .rem => if k = k' ∧ b ≠ 0 then some (.int k (a.tmod b)) else none
  | .and => if k = k' then some (.int k (bits .and k a b)) else none
  | .or => if k = k' then some (.int k (bits .or k a b)) else none
  | .xor => if k = k' then some (.int k (bits .xor k a b)) else none
  | .andNot => if k = k' then some (.int k (bits .andNot k a b)) else none
  | .eql => if k = k' then some (.bool (a == b)) else none
  | .neq => if k = k' then some (.bool (a != b)) else none
  | .lss => if k = k' then some (.bool (decide (a < b))) else none
  | .leq => if k = k' then some (.bool (decide (a ≤ b))) else none
  | .gtr => if k = k' then some (.bool (decide (b < a))) else none
  | .geq => if k = k' then some (.bool (decide (b ≤ a))) else none

def astr (op : BinOp) (a b : List UInt8) : Option AV :=
  match op with
  | .add => if a.length + b.length ≤ 9223372036854775807 then some (.str (a ++ b)) else none
  | .eql => some (.bool (a == b))
  | .neq => some (.bool (!(a == b)))
  | .lss => some (.bool (Op.bytesLess a b))
  | .leq => some (.bool (Op.bytesLess a b || a == b))
  | .gtr => some (.bool (!(Op.bytesLess a b || a == b)))
  | .geq => some (.bool (!(Op.bytesLess a b)))
  | _ => none

def AV.isRef : AV → Bool
  | .ptr _ _ | .lref _ _ | .eref _ => true
  | _ => false

/-- Nil held against a value. -/
def anil (P : Program) (t : TypeId) : AV → AV → Option Bool
  | .nilp, .nilp => if tptr P t then some true else none
  | .nilp, .ptr _ _ => if tptr P t then some false else none
  | .nilp, .lref _ _ => if tptr P t then some false else none
  | .ptr _ _, .nilp => if tptr P t then some false else none
  | .lref _ _, .nilp => if tptr P t then some false else none
  | .nilf, .nilf => if tfunc P t then some true else none
  | .nilf, .func _ _ => if tfunc P t then some false else none
  | .func _ _, .nilf => if tfunc P t then some false else none
  | .nilmap, .nilmap => if (tmap P t).isSome then some true else none
  | .nilmap, .map _ => if (tmap P t).isSome then some false else none
  | .map _, .nilmap => if (tmap P t).isSome then some false else none
  | _, _ => none

/-- Two structs are compared cell by cell. -/
def scal : AV → AV → Option Bool
  | .int k a, .int k' b => if k = k' then some (a == b) else none
  | .str a, .str b => some (a == b)
  | .bool a, .bool b => some (a == b)
  | _, _ => none
def scals : List AV → List AV → Option Bool
  | [], [] => some true
  | a :: as, b :: bs => match scal a b, scals as bs with
    | some x, some y => some (x && y)
    | _, _ => none
  | _, _ => none

inductive Kd where
  | int (k : IntKind)
  | str
  | bool
def AV.kd : AV → Option Kd
  | .int k _ => some (.int k)
  | .str _ => some .str
  | .bool _ => some .bool
  | _ => none
def kds : List AV → Option (List Kd)
  | [] => some []
  | a :: as => match a.kd, kds as with
    | some k, some ks => some (k :: ks)
    | _, _ => none

/-- What is asked of a struct's type, so that its values are compared cell by cell. -/
def EqFlat (P : Program) (t : TypeId) (ks : List Kd) : Prop :=
  ∀ (g : Gh) (xs ys : List AV) (us vs : Array Value) (w : World) (b : Bool), kds xs = some ks → VR g (.agg xs) (.agg us) → VR g (.agg ys) (.agg vs) → scals xs ys = some b →
    (Op.equal t (.agg us) (.agg vs)).run P w = .ok b w ∧ ∀ op x y, (eqGuard op t x y (.agg us) (.agg vs)).run P w = .ok () w

open Classical in
noncomputable def abin (P : Program) (op : BinOp) (t : TypeId) (a b : AV) : Option AV :=
  match a, b with
  | .int k x, .int k' y => aint op k x k' y
  | .str x, .str y => astr op x y
  | .bool x, .bool y => match op with
    | .eql => if tbool P t then some (.bool (x == y)) else none
    | .neq => if tbool P t then some (.bool (!(x == y))) else none
    | _ => none
  | .agg xs, .agg ys => match kds xs with
    | some ks => if EqFlat P t ks then (match op with
      | .eql => (scals xs ys).map .bool
      | .neq => (scals xs ys).map fun r => .bool (!r)
      | _ => none) else none
    | none => none
  | a, b => match op with
    | .eql => (anil P t a b).map .bool
    | .neq => (anil P t a b).map fun r => .bool (!r)
    | _ => none

def aunop (op : UnOp) : AV → Option AV
  | .bool b => match op with | .not => some (.bool (!b)) | _ => none
  | .int k n => match op with | .neg => some (.int k (k.wrap (0 - n))) | .xor => some (.int k (bits .xor k (if k.signed then -1 else k.max) n)) | _ => none
  | _ => none

def abytes : List AV → Option (List UInt8)
  | [] => some []
  | .int .u8 n :: l => match abytes l with | some r => some (UInt8.ofNat n.toNat :: r) | none => none
  | _ => none

def aconv (P : Program) (src dst : TypeId) (a : AV) : Option AV :=
  match a with
  | .int _ n => match tint P dst with
    | some k => if (P.underlying src).isSome then some (.int k (k.wrap n)) else none
    | none => none
  | .str s => if tstr P dst && (P.underlying src).isSome then some (.str s) else none
  | .list es _ => match telem P src with
    | some e => if tstr P dst && tint P e == some .u8 then (abytes es).map .str else none
    | none => none
  | _ => none

def afieldAddr (P : Program) (t : TypeId) (f : Nat) (a : AV) : Option AV :=
  match tfield P t f with
  | some (o, ft) => if (tsize P ft).getD 0 = 0 then none else match a with
    | .lref k off => some (.lref k (off + o))
    | .ptr id off => some (.ptr id (off + o))
    | .eref cs => if o ≤ cs.length then some (.eref (cs.drop o)) else none
    | _ => none
  | none => none

/-- A part of a value. -/
def apart (P : Program) (t : TypeId) (cs : List AV) (off : Nat) : Option AV :=
  match tsize P t, tagg P t with
  | some n, some true => if off + n ≤ cs.length then some (.agg ((cs.drop off).take n)) else none
  | some _, some false => cs[off]?
  | _, _ => none

def afield (P : Program) (t : TypeId) (f : Nat) (a : AV) : Option AV :=
  match tfield P t f, a with
  | some (o, ft), .agg cs => apart P ft cs o
  | _, _ => none

def aindexAddr (P : Program) (t : TypeId) (a i : AV) : Option AV :=
  match i with
  | .int _ n => if 0 ≤ n then (match a with
    | .list es _ => match telem P t with
      | some e => match es[n.toNat]?, tsize P e with
        | some x, some m => if x.cells.length = m then some (.eref x.cells) else none
        | _, _ => none
      | none => none
    | .sl id len => match telem P t with
      | some e => match tsize P e with
        | some m => if n < len then some (.ptr id (n.toNat * m)) else none
        | none => none
      | none => none
    | a => match tarr P t with
      | some (len, e) => match tsize P e with
        | some m => if n < len then (match a with
          | .lref k off => some (.lref k (off + n.toNat * m))
          | .ptr id off => some (.ptr id (off + n.toNat * m))
          | .eref cs => if n.toNat * m ≤ cs.length then some (.eref (cs.drop (n.toNat * m))) else none
          | _ => none) else none
        | none => none
      | none => none) else none
  | _ => none

def aindex (P : Program) (t : TypeId) (a i : AV) : Option AV :=
  match i with
  | .int _ n => if 0 ≤ n then (match a with
    | .str s => if tstr P t then (s[n.toNat]?).map fun c => .int .u8 c.toNat else none
    | .agg cs => match tarr P t with
      | some (len, e) => match tsize P e with
        | some m => if n < len then apart P e cs (n.toNat * m) else none
        | none => none
      | none => none
    | _ => none) else none
  | _ => none

def bnd (d : Nat) : Option AV → Option Nat
  | none => some d
  | some (.int _ n) => if 0 ≤ n then some n.toNat else none
  | some _ => none

/-- All elements have so many cells. -/
def sized (m : Nat) (es : List AV) : Bool := es.all fun e => e.cells.length == m && e.cells.all AV.one

def cutTag (tag : Tag) (l : Nat) (atEnd : Bool) : Tag :=
  match tag with
  | .no => .no
  | .full => if atEnd then .full else .no
  | .tok t => if atEnd && l == 0 then .tok t else .no

/-- The piece from l to h; to the end, where no end is told. -/
def acut {α : Type} (es : List α) (l h : Nat) (told : Bool) : List α := if told then (es.take h).drop l else es.drop l

def aslice (P : Program) (t : TypeId) (a : AV) (lo hi mx : Option AV) : Option AV :=
  match a with
  | .str s => if tstr P t then (match bnd 0 lo, bnd s.length hi, mx with
    | some l, some h, none => if l ≤ h ∧ h ≤ s.length then some (.str (acut s l h hi.isSome)) else none
    | _, _, _ => none) else none
  | .list es tag => match telem P t with
    | some e => if (tsize P e).any (fun m => sized m es) then match bnd 0 lo, bnd es.length hi, mx with
      | some l, some h, none => if l ≤ h ∧ h ≤ es.length then some (.list (acut es l h hi.isSome) (cutTag tag l (h == es.length))) else none
      | some l, some h, some (.int _ m) => if l ≤ h ∧ (h : Int) = m ∧ h ≤ es.length ∧ hi.isSome then some (.list ((es.take h).drop l) .full) else none
      | _, _, _ => none else none
    | none => none
  | _ => none

def alen (P : Program) (t : TypeId) : AV → Option AV
  | .str s => if tstr P t then some (.int .i64 s.length) else none
  | .list es _ => if (telem P t).isSome then some (.int .i64 es.length) else none
  | .sl _ n => if (telem P t).isSome then some (.int .i64 n) else none
  | _ => none

def amax : AV → AV → Option AV
  | .int k a, .int _ b => some (.int k (if b > a then b else a))
  | _, _ => none
def amin : AV → AV → Option AV
  | .int k a, .int _ b => some (.int k (if b < a then b else a))
  | _, _ => none

def looks (ρ : Operand → Option AV) : List Operand → Option (List AV)
  | [] => some []
  | x :: xs => match ρ x, looks ρ xs with
    | some a, some l => some (a :: l)
    | _, _ => none

/-- Not an address of the frame's own. -/
def AV.free : AV → Bool
  | .lref _ _ => false
  | _ => true

noncomputable def apure (P : Program) (op : Go.Op) (ρ : Operand → Option AV) (L : Boxes) (σ : Sh) : Option AV :=
  match op with
  | .move x | .assign x => ρ x
  | .pick c a b => match ρ c with
    | some (.bool true) => ρ a
    | some (.bool false) => ρ b
    | _ => none
  | .load t a => match ρ a with
    | some a => match acells L σ a with
      | some cs => aload P t cs
      | none => none
    | none => none
  | .nilCheck x => match ρ x with
    | some a => if a.isRef then some a else none
    | none => none
  | .binOp op t x y _ => match ρ x, ρ y with
    | some a, some b => abin P op t a b
    | _, _ => none
  | .unOp op _ x => match ρ x with
    | some a => aunop op a
    | none => none
  | .convert s d x => match ρ x with
    | some a => aconv P s d a
    | none => none
  | .makeFunc fn first cap => if first.size = 0 then (match looks ρ cap.toList with
    | some l => if l.all AV.free then some (.func fn l) else none
    | none => none) else none
  | .slice t x lo hi mx => match ρ x with
    | some a => match (lo.elim (some none) fun x => (ρ x).map some), (hi.elim (some none) fun x => (ρ x).map some), (mx.elim (some none) fun x => (ρ x).map some) with
      | some lo, some hi, some mx => aslice P t a lo hi mx
      | _, _, _ => none
    | none => none
  | .fieldAddr t x f => match ρ x with
    | some a => afieldAddr P t f a
    | none => none
  | .field t x f => match ρ x with
    | some a => afield P t f a
    | none => none
  | .indexAddr t x i => match ρ x, ρ i with
    | some a, some b => aindexAddr P t a b
    | _, _ => none
  | .index t x i => match ρ x, ρ i with
    | some a, some b => aindex P t a b
    | _, _ => none
  | .extract x i => match ρ x with
    | some (.tuple vs) => vs[i]?
    | _ => none
  | .call { callee := .builtin b, args, argTypes } => match b, args.toList, argTypes.toList with
    | .len, [x], t :: _ => match ρ x with
      | some a => alen P t a
      | none => none
    | .max, [x, y], _ => match ρ x, ρ y with
      | some a, some b => amax a b
      | _, _ => none
    | .min, [x, y], _ => match ρ x, ρ y with
      | some a, some b => amin a b
      | _, _ => none
    | _, _, _ => none
  | _ => none

end Go.Am
namespace Go.Am
open Go

section
variable {P : Program} {B : Base} {g : Gh} {blk : Nat → Option Nat} {E : Env} {L : Boxes} {σ : Sh} {tmps : Array Value} {w : World}

theorem SR.vr {a : AV} {x : Value} (h : SR g blk a x) (hf : a.free = true) : VR g a x := by
  cases a <;> first | exact h | cases hf
theorem VR.sr {a : AV} {x : Value} (h : VR g a x) : SR g blk a x := by
  cases a <;> first | exact h | cases h

theorem aint_ok {op : BinOp} {k k' : IntKind} {a b : Int} {v : AV} (t : TypeId) (x y : Operand) (h : aint op k a k' b = some v) :
    ∃ u, ((do eqGuard op t x y (.int k a) (.int k' b); binOp op t (.int k a) (.int k' b)) : Sem Value).run P w = .ok u w ∧ VR g v u := by
  have hg : eqGuard op t x y (.int k a) (.int k' b) = pure () := eqGuard_at_int ..
  rw [hg]
  cases op <;> simp only [aint] at h
  all_goals (split at h)
  all_goals first | (cases h; done) | skip
  all_goals (cases h)
  all_goals first
    | (rename_i hk; obtain ⟨hk, hb⟩ := hk; subst hk; refine ⟨_, ?_, .int _ _⟩; simp [binOp, Op.intDiv, hb]; done)
    | (rename_i hk; subst hk; refine ⟨_, ?_, .int _ _⟩; simp [binOp, Op.intArith, intBits_and, intBits_or, intBits_xor, intBits_andNot]; done)
    | (rename_i hk; subst hk; refine ⟨_, ?_, .bool _⟩; simp [binOp, Op.intCmp]; done)
    | (rename_i hk; refine ⟨_, ?_, .int _ _⟩; simp [binOp, Op.shift, hk]; done)
    | skip

theorem astr_ok {op : BinOp} {a b : List UInt8} {v : AV} (t : TypeId) (x y : Operand) (h : astr op a b = some v) :
    ∃ u, ((do eqGuard op t x y (.string ⟨a.toArray⟩) (.string ⟨b.toArray⟩); binOp op t (.string ⟨a.toArray⟩) (.string ⟨b.toArray⟩)) : Sem Value).run P w = .ok u w ∧ VR g v u := by
  have hg : eqGuard op t x y (.string ⟨a.toArray⟩) (.string ⟨b.toArray⟩) = pure () := eqGuard_at_string ..
  rw [hg]
  cases op <;> simp only [astr] at h
  case add =>
    split at h
    · rename_i hl
      cases h
      refine ⟨_, ?_, .str _⟩
      have := run_string_add_sum (P := P) (w := w) ⟨a.toArray⟩ ⟨b.toArray⟩ (by simpa [ByteArray.size] using hl)
      rw [ByteArray.mk_append_mk] at this
      simpa [binOp] using this
    · cases h
  all_goals first | (cases h; done) | skip
  all_goals
    cases h
    refine ⟨_, ?_, .bool _⟩
    simp [binOp, Op.stringOp]

theorem equal_bool {t : TypeId} (ht : tbool P t = true) (a b : Bool) : (Op.equal t (.bool a) (.bool b)).run P w = .ok (a == b) w := run_equal_bool w t a b (tbool_und ht)

theorem tfunc_und {t : TypeId} (h : tfunc P t = true) : ∃ a b c, P.underlying t = some (.func a b c) := by
  unfold tfunc at h; split at h <;> simp_all
theorem tmap_und {t : TypeId} (h : (tmap P t).isSome = true) : ∃ a b, P.underlying t = some (.map a b) := by
  simp only [tmap, Option.isSome_iff_exists, Option.bind_eq_some_iff] at h
  obtain ⟨x, d, h1, h2⟩ := h
  cases d <;> simp at h2
  exact ⟨_, _, h1⟩

/-- Nil held against a value. -/
theorem anil_ok {t : TypeId} {x y : Operand} {op : BinOp} {a b : AV} {u v : Value} {r : Bool} (ha : SR g blk a u) (hb : SR g blk b v) (h : anil P t a b = some r) :
    (Op.equal t u v).run P w = .ok r w ∧ eqGuard op t x y u v = pure () ∧ (∀ k n, u ≠ .int k n) ∧ (∀ s, u ≠ .string s) ∧ (∀ k n, u ≠ .float k n) ∧ ∀ k n m, u ≠ .complex k n m := by
  cases a <;> cases b <;> simp only [anil] at h <;> first | (cases h; done) | skip
  all_goals (split at h <;> first | (cases h; done) | skip)
  all_goals (rename_i ht; cases h)
  all_goals first
    | (refine Exists.elim (tptr_und ht) ?_; intro e he)
    | (refine Exists.elim (tfunc_und ht) ?_; rintro e1 ⟨e2, e3, he⟩)
    | (refine Exists.elim (tmap_und ht) ?_; rintro e1 ⟨e2, he⟩)
  all_goals first
    | (obtain ⟨b1, _, rfl⟩ := ha)
    | cases ha
  all_goals first
    | (obtain ⟨b2, _, rfl⟩ := hb)
    | cases hb
  all_goals refine ⟨?_, by first | exact eqGuard_at_pointer .. | exact eqGuard_at_func .. | exact eqGuard_at_nilFunc .. | exact eqGuard_at_map .., by simp, by simp, by simp, by simp⟩
  all_goals
    change Sem.run P (Op.equalIn (9999 + 1) t _ _) w = _
    generalize 9999 = d
    simp [Op.equalIn, run_underlying he]

theorem abin_ok {op : BinOp} {t : TypeId} {x y : Operand} {a b v : AV} {u₁ u₂ : Value} (ha : SR g blk a u₁) (hb : SR g blk b u₂) (h : abin P op t a b = some v) :
    ∃ u, ((do eqGuard op t x y u₁ u₂; binOp op t u₁ u₂) : Sem Value).run P w = .ok u w ∧ VR g v u := by
  unfold abin at h
  split at h
  · cases ha; cases hb
    exact aint_ok t x y h
  · cases ha; cases hb
    exact astr_ok t x y h
  · cases ha; cases hb
    rename_i p q
    have hg : eqGuard op t x y (.bool p) (.bool q) = pure () := eqGuard_at_bool ..
    rw [hg]
    cases op <;> simp only at h <;> first | (cases h; done) | skip
    all_goals (split at h <;> first | (cases h; done) | skip)
    all_goals (rename_i ht; cases h; refine ⟨_, ?_, .bool _⟩)
    · simp [run_eql_bool w t p q (tbool_und ht)]
    · simp [run_neq_bool w t p q (tbool_und ht)]
  · rename_i xs ys
    split at h
    case h_2 => cases h
    rename_i ks hk
    split at h
    · rename_i hf
      have ha' : VR g (.agg xs) u₁ := ha
      have hb' : VR g (.agg ys) u₂ := hb
      cases ha' with
      | agg _ us hl1 hv1 =>
        cases hb' with
        | agg _ vs hl2 hv2 =>
          cases op <;> simp only [Option.map_eq_some_iff] at h <;> first | (cases h; done) | skip
          all_goals
            obtain ⟨r, hr, rfl⟩ := h
            obtain ⟨e1, e2⟩ := hf g xs ys us vs w r hk (.agg _ _ hl1 hv1) (.agg _ _ hl2 hv2) hr
            refine ⟨_, ?_, .bool _⟩
          · simp [e2 .eql x y, binOp, e1]
          · simp [e2 .neq x y, binOp, e1]
    · cases h
  · cases op <;> simp only [Option.map_eq_some_iff] at h <;> first | (cases h; done) | skip
    all_goals
      obtain ⟨r, hr, rfl⟩ := h
    · obtain ⟨e1, e2, e3, e4, e5, e6⟩ := anil_ok (w := w) (x := x) (y := y) (op := .eql) ha hb hr
      refine ⟨_, ?_, .bool _⟩
      rw [e2]
      cases u₁ <;> simp_all [binOp]
    · obtain ⟨e1, e2, e3, e4, e5, e6⟩ := anil_ok (w := w) (x := x) (y := y) (op := .neq) ha hb hr
      refine ⟨_, ?_, .bool _⟩
      rw [e2]
      cases u₁ <;> simp_all [binOp]

end
end Go.Am
