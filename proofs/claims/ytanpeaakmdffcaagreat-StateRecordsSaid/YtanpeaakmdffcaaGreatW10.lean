/- What functions of this program compute, a part: see the main text. No conditions. -/
import Derived.Test.YtanpeaakmdffcaaGreatW08
import Derived.Test.YtanpeaakmdffcaaGreatW09
set_option linter.all false
set_option maxRecDepth 100000
namespace Go.Am
open Go

def sval : AV → Value
  | .int k n => .int k n
  | .str s => .string ⟨s.toArray⟩
  | .bool b => .bool b
  | _ => undef

theorem VR_sval {g : Gh} {a : AV} {v : Value} {k : Kd} (h : VR g a v) (hk : a.kd = some k) : v = sval a := by
  cases h <;> first | rfl | cases hk

theorem kds_mem : ∀ {xs : List AV} {ks : List Kd}, kds xs = some ks → ∀ i, i < xs.length → ∃ k, (xs.getD i default).kd = some k
  | [], _, _, i, hi => by simp at hi
  | a :: l1, ks, h, i, hi => by
    simp only [kds] at h
    split at h
    · rename_i k ks' h1 h2
      cases i with
      | zero => exact ⟨k, h1⟩
      | succ i => exact kds_mem h2 i (by simpa using hi)
    · cases h

theorem scal_kd {a b : AV} {r : Bool} (h : scal a b = some r) : ∃ k, b.kd = some k ∧ a.kd = some k := by
  cases a <;> cases b <;> simp only [scal] at h <;> first | (cases h; done) | skip
  · exact ⟨_, rfl, rfl⟩
  · split at h
    · rename_i hk; subst hk; exact ⟨_, rfl, rfl⟩
    · cases h
  · exact ⟨_, rfl, rfl⟩

theorem scals_kds : ∀ {xs ys : List AV} {ks : List Kd} {r : Bool}, kds xs = some ks → scals xs ys = some r → kds ys = some ks
  | [], [], ks, r, h, _ => h
  | [], _ :: _, ks, r, _, h => by simp [scals] at h
  | _ :: _, [], ks, r, _, h => by simp [scals] at h
  | a :: l1, b :: l2, ks, r, h, hs => by
    simp only [kds] at h
    split at h
    · rename_i k ks' h1 h2
      simp only [scals] at hs
      split at hs
      · rename_i r1 r2 h3 h4
        obtain ⟨k', h5, h6⟩ := scal_kd h3
        have h7 := scals_kds h2 h4
        simp only [kds, h5, h7]
        rw [h1] at h6; cases h6
        exact h
      · cases hs
    · cases h

theorem agg_sval {g : Gh} {xs : List AV} {us : Array Value} {ks : List Kd} (h : VR g (.agg xs) (.agg us)) (hk : kds xs = some ks) : us = (xs.map sval).toArray := by
  cases h with
  | agg _ _ hl hv =>
    refine Array.ext (by simpa using hl) fun i h1 h2 => ?_
    have hi : i < xs.length := by simpa using h2
    obtain ⟨k, hk'⟩ := kds_mem hk i hi
    have h3 := VR_sval (hv i hi) hk'
    simp only [Array.getD, h1, dite_true, List.getD, List.getElem?_eq_getElem hi, Option.getD_some] at h3
    simpa using h3

theorem kds_cons {xs : List AV} {k : Kd} {ks : List Kd} (h : kds xs = some (k :: ks)) : ∃ a l1, xs = a :: l1 ∧ a.kd = some k ∧ kds l1 = some ks := by
  cases xs with
  | nil => cases h
  | cons a l1 =>
    simp only [kds] at h
    split at h
    · rename_i h1 h2; cases h; exact ⟨a, l1, rfl, h1, h2⟩
    · cases h
theorem kds_nil {xs : List AV} (h : kds xs = some []) : xs = [] := by
  cases xs with
  | nil => rfl
  | cons a l1 =>
    simp only [kds] at h
    split at h <;> cases h
theorem kd_int {a : AV} {k : IntKind} (h : a.kd = some (.int k)) : ∃ n, a = .int k n := by
  cases a <;> first | (cases h; done) | (cases h; exact ⟨_, rfl⟩)
theorem kd_str {a : AV} (h : a.kd = some .str) : ∃ n, a = .str n := by
  cases a <;> first | (cases h; done) | (exact ⟨_, rfl⟩)

theorem barr_toList (s : List UInt8) : (ByteArray.mk s.toArray).toList = s := by simp [ByteArray.toList_eq]
@[go_sem] theorem eqf28 : EqFlat Go.Proofs.Tryz.prog 28 [.int .i64, .int .i64] := by
  intro g xs ys us vs w b hk hx hy hs
  have hk2 := scals_kds hk hs
  have e1 := agg_sval hx hk
  have e2 := agg_sval hy hk2
  obtain ⟨a0, as0, rfl, ak0, ah0⟩ := kds_cons hk
  obtain ⟨an0, rfl⟩ := kd_int ak0
  obtain ⟨a1, as1, rfl, ak1, ah1⟩ := kds_cons ah0
  obtain ⟨an1, rfl⟩ := kd_int ak1
  obtain rfl := kds_nil ah1
  obtain ⟨b0, bs0, rfl, bk0, bh0⟩ := kds_cons hk2
  obtain ⟨bn0, rfl⟩ := kd_int bk0
  obtain ⟨b1, bs1, rfl, bk1, bh1⟩ := kds_cons bh0
  obtain ⟨bn1, rfl⟩ := kd_int bk1
  obtain rfl := kds_nil bh1
  subst e1 e2
  simp only [scals, scal, if_true, Option.some.injEq] at hs
  refine ⟨?_, fun op x y => run_eqGuard_agg _ _ _ _ _ _ _ (by kernel_rfl)⟩
  subst hs
  simp [go_sem, Op.equal, Op.maxDepth, sval, Go.Proofs.Tryz.underlying3, Go.Proofs.Tryz.underlying28, Go.Proofs.Tryz.stoodInHeld28]
  clear hx hy hk hk2
  repeat' split
  all_goals simp [*]
@[go_sem] theorem eqf43 : EqFlat Go.Proofs.Tryz.prog 43 [.int .i64, .int .i64, .str, .str, .int .i64] := by
  intro g xs ys us vs w b hk hx hy hs
  have hk2 := scals_kds hk hs
  have e1 := agg_sval hx hk
  have e2 := agg_sval hy hk2
  obtain ⟨a0, as0, rfl, ak0, ah0⟩ := kds_cons hk
  obtain ⟨an0, rfl⟩ := kd_int ak0
  obtain ⟨a1, as1, rfl, ak1, ah1⟩ := kds_cons ah0
  obtain ⟨an1, rfl⟩ := kd_int ak1
  obtain ⟨a2, as2, rfl, ak2, ah2⟩ := kds_cons ah1
  obtain ⟨an2, rfl⟩ := kd_str ak2
  obtain ⟨a3, as3, rfl, ak3, ah3⟩ := kds_cons ah2
  obtain ⟨an3, rfl⟩ := kd_str ak3
  obtain ⟨a4, as4, rfl, ak4, ah4⟩ := kds_cons ah3
  obtain ⟨an4, rfl⟩ := kd_int ak4
  obtain rfl := kds_nil ah4
  obtain ⟨b0, bs0, rfl, bk0, bh0⟩ := kds_cons hk2
  obtain ⟨bn0, rfl⟩ := kd_int bk0
  obtain ⟨b1, bs1, rfl, bk1, bh1⟩ := kds_cons bh0
  obtain ⟨bn1, rfl⟩ := kd_int bk1
  obtain ⟨b2, bs2, rfl, bk2, bh2⟩ := kds_cons bh1
  obtain ⟨bn2, rfl⟩ := kd_str bk2
  obtain ⟨b3, bs3, rfl, bk3, bh3⟩ := kds_cons bh2
  obtain ⟨bn3, rfl⟩ := kd_str bk3
  obtain ⟨b4, bs4, rfl, bk4, bh4⟩ := kds_cons bh3
  obtain ⟨bn4, rfl⟩ := kd_int bk4
  obtain rfl := kds_nil bh4
  subst e1 e2
  simp only [scals, scal, if_true, Option.some.injEq] at hs
  refine ⟨?_, fun op x y => run_eqGuard_agg _ _ _ _ _ _ _ (by kernel_rfl)⟩
  subst hs
  simp [go_sem, Op.equal, Op.maxDepth, sval, Go.Proofs.Tryz.underlying3, Go.Proofs.Tryz.underlying9, Go.Proofs.Tryz.underlying28, Go.Proofs.Tryz.stoodInHeld28, Go.Proofs.Tryz.underlying43, Go.Proofs.Tryz.stoodInHeld43]
  clear hx hy hk hk2
  repeat' split
  all_goals simp [*]
@[go_sem] theorem eqf85 : EqFlat Go.Proofs.Tryz.prog 85 [.str, .int .i64] := by
  intro g xs ys us vs w b hk hx hy hs
  have hk2 := scals_kds hk hs
  have e1 := agg_sval hx hk
  have e2 := agg_sval hy hk2
  obtain ⟨a0, as0, rfl, ak0, ah0⟩ := kds_cons hk
  obtain ⟨an0, rfl⟩ := kd_str ak0
  obtain ⟨a1, as1, rfl, ak1, ah1⟩ := kds_cons ah0
  obtain ⟨an1, rfl⟩ := kd_int ak1
  obtain rfl := kds_nil ah1
  obtain ⟨b0, bs0, rfl, bk0, bh0⟩ := kds_cons hk2
  obtain ⟨bn0, rfl⟩ := kd_str bk0
  obtain ⟨b1, bs1, rfl, bk1, bh1⟩ := kds_cons bh0
  obtain ⟨bn1, rfl⟩ := kd_int bk1
  obtain rfl := kds_nil bh1
  subst e1 e2
  simp only [scals, scal, if_true, Option.some.injEq] at hs
  refine ⟨?_, fun op x y => run_eqGuard_agg _ _ _ _ _ _ _ (by kernel_rfl)⟩
  subst hs
  simp [go_sem, Op.equal, Op.maxDepth, sval, Go.Proofs.Tryz.underlying3, Go.Proofs.Tryz.underlying9, Go.Proofs.Tryz.underlying85, Go.Proofs.Tryz.stoodInHeld85]
  clear hx hy hk hk2
  repeat' split
  all_goals simp [*]
@[go_sem] theorem eqf87 : EqFlat Go.Proofs.Tryz.prog 87 [.int .i64, .int .i64, .int .i64] := by
  intro g xs ys us vs w b hk hx hy hs
  have hk2 := scals_kds hk hs
  have e1 := agg_sval hx hk
  have e2 := agg_sval hy hk2
  obtain ⟨a0, as0, rfl, ak0, ah0⟩ := kds_cons hk
  obtain ⟨an0, rfl⟩ := kd_int ak0
  obtain ⟨a1, as1, rfl, ak1, ah1⟩ := kds_cons ah0
  obtain ⟨an1, rfl⟩ := kd_int ak1
  obtain ⟨a2, as2, rfl, ak2, ah2⟩ := kds_cons ah1
  obtain ⟨an2, rfl⟩ := kd_int ak2
  obtain rfl := kds_nil ah2
  obtain ⟨b0, bs0, rfl, bk0, bh0⟩ := kds_cons hk2
  obtain ⟨bn0, rfl⟩ := kd_int bk0
  obtain ⟨b1, bs1, rfl, bk1, bh1⟩ := kds_cons bh0
  obtain ⟨bn1, rfl⟩ := kd_int bk1
  obtain ⟨b2, bs2, rfl, bk2, bh2⟩ := kds_cons bh1
  obtain ⟨bn2, rfl⟩ := kd_int bk2
  obtain rfl := kds_nil bh2
  subst e1 e2
  simp only [scals, scal, if_true, Option.some.injEq] at hs
  refine ⟨?_, fun op x y => run_eqGuard_agg _ _ _ _ _ _ _ (by kernel_rfl)⟩
  subst hs
  simp [go_sem, Op.equal, Op.maxDepth, sval, Go.Proofs.Tryz.underlying3, Go.Proofs.Tryz.underlying87, Go.Proofs.Tryz.stoodInHeld87]
  clear hx hy hk hk2
  repeat' split
  all_goals simp [*]
@[go_sem] theorem eqf89 : EqFlat Go.Proofs.Tryz.prog 89 [.int .i64, .int .i64, .int .i64, .int .i64] := by
  intro g xs ys us vs w b hk hx hy hs
  have hk2 := scals_kds hk hs
  have e1 := agg_sval hx hk
  have e2 := agg_sval hy hk2
  obtain ⟨a0, as0, rfl, ak0, ah0⟩ := kds_cons hk
  obtain ⟨an0, rfl⟩ := kd_int ak0
  obtain ⟨a1, as1, rfl, ak1, ah1⟩ := kds_cons ah0
  obtain ⟨an1, rfl⟩ := kd_int ak1
  obtain ⟨a2, as2, rfl, ak2, ah2⟩ := kds_cons ah1
  obtain ⟨an2, rfl⟩ := kd_int ak2
  obtain ⟨a3, as3, rfl, ak3, ah3⟩ := kds_cons ah2
  obtain ⟨an3, rfl⟩ := kd_int ak3
  obtain rfl := kds_nil ah3
  obtain ⟨b0, bs0, rfl, bk0, bh0⟩ := kds_cons hk2
  obtain ⟨bn0, rfl⟩ := kd_int bk0
  obtain ⟨b1, bs1, rfl, bk1, bh1⟩ := kds_cons bh0
  obtain ⟨bn1, rfl⟩ := kd_int bk1
  obtain ⟨b2, bs2, rfl, bk2, bh2⟩ := kds_cons bh1
  obtain ⟨bn2, rfl⟩ := kd_int bk2
  obtain ⟨b3, bs3, rfl, bk3, bh3⟩ := kds_cons bh2
  obtain ⟨bn3, rfl⟩ := kd_int bk3
  obtain rfl := kds_nil bh3
  subst e1 e2
  simp only [scals, scal, if_true, Option.some.injEq] at hs
  refine ⟨?_, fun op x y => run_eqGuard_agg _ _ _ _ _ _ _ (by kernel_rfl)⟩
  subst hs
  simp [go_sem, Op.equal, Op.maxDepth, sval, Go.Proofs.Tryz.underlying3, Go.Proofs.Tryz.underlying28, Go.Proofs.Tryz.stoodInHeld28, Go.Proofs.Tryz.underlying89, Go.Proofs.Tryz.stoodInHeld89]
  clear hx hy hk hk2
  repeat' split
  all_goals simp [*]
end Go.Am
namespace Go.Am
open Go
theorem le63 {n : Nat} (h : n ≤ 9223372036854775807) : (n ≤ 9223372036854775807) = True := eq_true h
theorem le40 {n : Nat} (h : n ≤ 1099511627776) : (n ≤ 1099511627776) = True := eq_true h
theorem le0 {n : Int} (h : 0 ≤ n) : (0 ≤ n) = True := eq_true h
theorem wrapu64_id {n : Int} (h1 : 0 ≤ n) (h2 : n < 18446744073709551616) : IntKind.u64.wrap n = n := by
  simp [IntKind.wrap, IntKind.bits, IntKind.signed]
  omega
theorem wrap8_id {n : Int} (h1 : 0 ≤ n) (h2 : n < 256) : IntKind.u8.wrap n = n := by
  simp [IntKind.wrap, IntKind.bits, IntKind.signed]
  omega
theorem take_map {α : Type} (f : α → AV) (l : List α) (n : Nat) : (l.map f).take n = (l.take n).map f := List.map_take.symm
theorem drop_map {α : Type} (f : α → AV) (l : List α) (n : Nat) : (l.map f).drop n = (l.drop n).map f := List.map_drop.symm
attribute [go_sem] take_map drop_map
theorem vw0_no {es es' : List AV} {tag : Tag} (h : es = es') : VW0 (.list es tag) (.list es' .no) := by subst h; exact .no _ _
theorem vw0_tok {es es' : List AV} {t t' : Nat} (h : es = es') (ht : t = t') : VW0 (.list es (.tok t)) (.list es' (.tok t')) := by subst h; subst ht; exact .refl _
theorem vw_no {es es' : List AV} {tag : Tag} (h : es = es') : VW1 (.list es tag) (.list es' .no) := by subst h; exact .one (.no _ _)
theorem vw_tok {es es' : List AV} {t : Nat} (h : es = es') : VW1 (.list es (.tok t)) (.list es' (.tok t)) := by subst h; exact .one (.refl _)
theorem ltI {a b : Int} (h : a < b) : (a < b) = True := eq_true h
theorem leN {a b : Nat} (h : a ≤ b) : (a ≤ b) = True := eq_true h
theorem leI {a b : Int} (h : a ≤ b) : (a ≤ b) = True := eq_true h
theorem filled_one (a : AV) (n : Nat) : filled [a] n = List.replicate n a := by
  refine List.ext_getElem? fun i => ?_
  by_cases h : i < n <;> simp [filled, h, Nat.mod_one]
theorem abytes_map (l : List Nat) : abytes (l.map fun x : Nat => AV.int .u8 (x : Int)) = some (l.map UInt8.ofNat) := by
  induction l with
  | nil => rfl
  | cons a l ih => simp [abytes, ih]
theorem tm128 (m : Nat) : Int.tmod (↑m) 128 = ↑(m % 128) := rfl
theorem td128 (m : Nat) : Int.tdiv (↑m) 128 = ↑(m / 128) := rfl
attribute [go_sem] tm128 td128
end Go.Am
namespace Go.Am
open Go

section
variable {P : Program} {B : Base} {E : Env} {L : Boxes} {σ : Sh} {Q : Exit → Env → Boxes → Sh → Prop}
theorem VWs.get' {cs ds : List AV} (h : VWs cs ds) {g : Gh} {vals : Array Value} (hv : ∀ i, i < cs.length → VR g (cs.getD i default) (vals.getD i undef)) : ∀ i, i < ds.length → VR g (ds.getD i default) (vals.getD i undef) :=
  fun i hi => (h.get i).vr (hv i (by rw [h.length]; exact hi))
theorem Rel.obW {g : Gh} {blk : Nat → Option Nat} {tmps : Array Value} {w : World} (h : Rel B g blk E L σ tmps w) {id : Nat} {cs ds : List AV} (ho : σ.ob id = some (.cells cs)) (hw : VWs cs ds) : Rel B g blk E L (σ.setOb id (.cells ds)) tmps w := by
  obtain ⟨b, h1, h2, _⟩ := h.sh.obs id _ ho
  obtain ⟨vals, T, e1, e2, e3⟩ := h2.ex
  exact h.setSh ho h1 rfl rfl rfl rfl (fun _ _ => rfl) ⟨vals, T, e1, by rw [e2, hw.length], hw.get' e3⟩
/-- A shared object is known less exactly from now on. -/
theorem awp_obw {c : Code} (id : Nat) {cs ds : List AV} (ho : σ.ob id = some (.cells cs)) (hw : VWs cs ds) (h : awp P B c Q E L (σ.setOb id (.cells ds))) : awp P B c Q E L σ :=
  fun g blk tmps w hr => h g blk tmps w (hr.obW ho hw)
theorem VWs.nos : ∀ l : List AV, VWs l (l.map fun | .list es _ => .list es .no | v => v)
  | [] => .nil
  | a :: l => .cons (by cases a <;> first | exact .no _ _ | exact .refl _) (VWs.nos l)
end

/-- The last operation waits for all others. -/
def lastAll (l : List Oper) : Bool := (List.range (l.length - 1)).all fun j => ((masks l []).getD (l.length - 1) 0).testBit j

section
variable {P : Program} {B : Base} {g g' : Gh} {blk : Nat → Option Nat} {E : Env} {L : Boxes} {σ : Sh} {tmps : Array Value} {w w' : World} {esc : Nat → Bool} {pureF : FuncId → Bool} {base : Nat}

theorem clash_a {dl : List (Option Tmp)} {a b : Oper} {s : Tmp} (h : a.dst = some s) (hs : s ∈ slotsOf dl b) : clash pureF dl a b = true := by simp [clash, h, hs]
theorem clash_b {dl : List (Option Tmp)} {a b : Oper} {s : Tmp} (h : b.dst = some s) (hs : s ∈ slotsOf dl a) : clash pureF dl a b = true := by simp [clash, h, hs]
theorem any_order_s {l : List Oper} {ol : Oper} (hord : inOrder pureF (l ++ [ol]) = true) (hlast : lastAll (l ++ [ol]) = true) (hd : ∀ o ∈ l, ∀ k, o.dst = some k → k < B.n) {E : Env} {L : Boxes} {σ : Sh} {tr : List Rec}
    (hp : Plan P esc pureF ((l ++ [ol]).map (·.dst)) base l 0 E L σ tr) {Q : Exit → Act → World → Prop}
    (hfin : ∀ g blk E' tm w, (∀ s, E'.get s = (selE (fun _ => true) l tr 0 E).get s) → Rel B g blk E' (selH pureF (fun _ => true) l tr 0 (L, σ)).1 (selH pureF (fun _ => true) l tr 0 (L, σ)).2 tm w →
      Free B g (selH pureF (fun _ => true) l tr 0 (L, σ)).2 (base + l.length) → ∀ K : Act → World → Prop, (∀ a w, Q .normal a w → K a w) → wpOp P (l ++ [ol]).toArray Q l.length K ⟨tm, []⟩ w) :
    ∀ (fuel : Nat) (listed : Array Bool) (g : Gh) (blk : Nat → Option Nat) (E' : Env) (tmps : Array Value) (w : World), listed.size = l.length + 1 → ((List.range (l.length + 1)).countP fun j => !inS listed j) = fuel →
      inS listed l.length = false →
      (∀ j o e, inS listed j = true → (l ++ [ol]).toArray[j]? = some o → e ∈ o.after → Region.binds .any e = true → inS listed e.on = true) →
      (∀ s, E'.get s = (selE (inS listed) l tr 0 E).get s) → Rel B g blk E' (selH pureF (inS listed) l tr 0 (L, σ)).1 (selH pureF (inS listed) l tr 0 (L, σ)).2 tmps w →
      (∀ j, j < l.length + 1 → inS listed j = false → Free B g (selH pureF (inS listed) l tr 0 (L, σ)).2 (base + j)) → wpAny P .any (l ++ [ol]).toArray Q fuel listed ⟨tmps, []⟩ w := by
  obtain ⟨ord1, ord2⟩ := inOrder_spec hord
  have hlen : (l ++ [ol]).length = l.length + 1 := by simp
  have hlp : ∀ j, j < l.length → Path (l ++ [ol]).toArray l.length j := fun j hj => by
    have h1 := List.all_eq_true.1 hlast j (by rw [hlen]; simpa using hj)
    rw [hlen] at h1
    exact masks_path (ops := (l ++ [ol]).toArray) (l ++ [ol]) [] (fun k o hk => by simpa using hk) (fun k i hk => by simp at hk) l.length j (by simp) h1
  have hready : ∀ (listed : Array Bool), listed.size = l.length + 1 → ∀ i, i ∈ Region.ready .any (l ++ [ol]).toArray listed ↔ i < l.length + 1 ∧ inS listed i = false ∧ ∀ o e, (l ++ [ol])[i]? = some o → e ∈ o.after → Region.binds .any e = true → inS listed e.on = true := by
    intro listed hsz i
    simp only [Region.ready, List.mem_filter, List.mem_range, List.size_toArray, Bool.and_eq_true, hlen]
    constructor
    · rintro ⟨h1, h2, h3⟩
      have hi : i < listed.size := by omega
      refine ⟨h1, by simpa [inS, Array.getD, hi] using h2, fun o e ho he hb => ?_⟩
      simp only [List.getElem?_toArray, ho, Option.map_some, Option.getD_some, Array.all_eq_true'] at h3
      have := h3 e he
      simpa [hb, inS] using this
    · rintro ⟨h1, h2, h3⟩
      have hi : i < listed.size := by omega
      refine ⟨h1, by simpa [inS, Array.getD, hi] using h2, ?_⟩
      have ho : (l ++ [ol])[i]? = some (l ++ [ol])[i] := List.getElem?_eq_getElem (by omega)
      simp only [List.getElem?_toArray, ho, Option.map_some, Option.getD_some, Array.all_eq_true']
      intro e he
      by_cases hb : Region.binds .any e = true
      · have := h3 _ e ho he hb
        simpa [inS, hb] using this
      · simp [hb]
  have hall : ∀ (listed : Array Bool), listed.size = l.length + 1 → Region.ready .any (l ++ [ol]).toArray listed = [] → ∀ j, j < l.length + 1 → inS listed j = true := by
    intro listed hsz hnil j
    induction j using Nat.strongRecOn with
    | _ j ih =>
      intro hj
      cases hs : inS listed j with
      | true => rfl
      | false =>
        exfalso
        have : j ∈ Region.ready .any (l ++ [ol]).toArray listed := (hready listed hsz j).2 ⟨hj, hs, fun o e ho he hb => ih e.on (ord1 j o e ho he hb) (Nat.lt_trans (ord1 j o e ho he hb) hj)⟩
        rw [hnil] at this
        simp at this
  intro fuel
  induction fuel with
  | zero =>
    intro listed g blk E' tmps w hsz hcount hnl
    exfalso
    have := List.countP_eq_zero.1 hcount l.length (by simp)
    rw [hnl] at this
    simp at this
  | succ fuel ih =>
    intro listed g blk E' tmps w hsz hcount hnl hclosed he hr hfree
    refine ⟨fun hnil => ?_, fun i hi => ?_⟩
    · have := hall listed hsz hnil l.length (by omega)
      rw [hnl] at this
      cases this
    obtain ⟨hil1, hnot, hrdy⟩ := (hready listed hsz i).1 hi
    have hreach : ∀ m, Path (l ++ [ol]).toArray i m → inS listed m = true := by
      intro m hpm
      have : ∀ {j m : Nat}, Path (l ++ [ol]).toArray j m → j = i → inS listed m = true := by
        intro j m hpm
        induction hpm with
        | edge ho' he' hb' =>
          rintro rfl
          simp only [List.getElem?_toArray] at ho'
          exact hrdy _ _ ho' he' hb'
        | more ho' he' hb' hpm' _ =>
          rintro rfl
          simp only [List.getElem?_toArray] at ho'
          exact path_closed hclosed hpm' (hrdy _ _ ho' he' hb')
      exact this hpm rfl
    by_cases hil : i < l.length
    · have ho : l[i]? = some l[i] := List.getElem?_eq_getElem hil
      have ho2 : (l ++ [ol])[i]? = some l[i] := by rw [List.getElem?_append_left hil]; exact ho
      obtain ⟨r, hr1, hfact⟩ := hp.at_ i _ ho
      simp only [Nat.zero_add] at hfact
      have up : ∀ {k o'}, l[k]? = some o' → (l ++ [ol])[k]? = some o' := fun {k o'} hk => by
        rw [List.getElem?_append_left (List.getElem?_eq_some_iff.1 hk).1]; exact hk
      have hdone : ∀ k o', l[k]? = some o' → k < i → clash pureF ((l ++ [ol]).map (·.dst)) o' l[i] = true → inS listed k = true :=
        fun k o' hk hlt hc => hreach k (ord2 k i o' _ (up hk) ho2 hlt hc)
      have hlater : ∀ k o', l[k]? = some o' → i < k → clash pureF ((l ++ [ol]).map (·.dst)) l[i] o' = true → inS listed k = false := by
        intro k o' hk hlt hc
        cases hs : inS listed k with
        | false => rfl
        | true =>
          have := path_closed hclosed (ord2 i k _ o' ho2 (up hk) hlt hc) hs
          rw [this] at hnot
          cases hnot
      have hE : ∀ s ∈ slotsOf ((l ++ [ol]).map (·.dst)) l[i], E'.get s = (selE (fun j => decide (j < i)) l tr 0 E).get s := by
        intro s hs
        rw [he s]
        refine selE_agree rfl fun k o' hk hdst => ?_
        simp only [Nat.zero_add]
        rcases Nat.lt_trichotomy k i with hlt | rfl | hgt
        · rw [hdone k o' hk hlt (clash_a hdst hs)]
          simpa using hlt
        · rw [hnot]; simp
        · rw [hlater k o' hk hgt (clash_b hdst hs)]
          simp; omega
      have hH : touchOf pureF l[i] ≠ .none → selH pureF (inS listed) l tr 0 (L, σ) = selH pureF (fun j => decide (j < i)) l tr 0 (L, σ) := by
        intro ht
        refine selH_agree fun k o' hk hw => ?_
        simp only [Nat.zero_add]
        rcases Nat.lt_trichotomy k i with hlt | rfl | hgt
        · rw [hdone k o' hk hlt (by simp [clash, hw, ht])]
          simpa using hlt
        · rw [hnot]; simp
        · rw [hlater k o' hk hgt (by simp [clash, hw, ht])]
          simp; omega
      have hSadd : inS (listed.setIfInBounds i true) = addS (inS listed) i := by
        funext j
        simp only [inS, addS]
        by_cases hj : j = i
        · subst hj
          have : j < listed.size := by omega
          simp [Array.getD_eq_getD_getElem?, this]
        · have h1 : (j == i) = false := by simpa using hj
          simp [h1, Array.getD_eq_getD_getElem?, Array.getElem?_setIfInBounds_ne (fun e => hj e.symm)]
      refine fact_wp (ops := (l ++ [ol]).toArray) (by simpa using ho2) hfact (E' := E') hE (fun ht => by rw [hH ht]; exact ⟨rfl, rfl⟩) hr (hfree i hil1 hnot) (hd _ (List.getElem_mem hil)) ?_
      intro g' blk' tm w' L'' σ'' hH2 hr2 hfree2
      have hsel : selH pureF (addS (inS listed) i) l tr 0 (L, σ) = (L'', σ'') := by
        have := selH_add (pureF := pureF) (S := inS listed) (l := l) (tr := tr) (i := 0) (k0 := i) (H := (L, σ)) ho hr1 (by simpa using hnot) (fun k o' hk hgt hw1 hw2 => by
          simp only [Nat.zero_add]
          exact hlater k o' hk hgt (by simp [clash, hw1, hw2]))
        simp only [Nat.zero_add] at this
        rw [this, hH2]
      refine ih (listed.setIfInBounds i true) g' blk' (putE l[i].dst r.v E') tm w' (by simpa using hsz) ?_ ?_ ?_ ?_ ?_ ?_
      · rw [hSadd]
        have hc : ∀ n, i < n → (List.range n).countP (fun j => !inS listed j) = (List.range n).countP (fun j => !addS (inS listed) i j) + 1 := by
          intro n
          induction n with
          | zero => intro h; omega
          | succ n ihn =>
            intro hlt
            rw [List.range_succ, List.countP_append, List.countP_append]
            by_cases hin : i = n
            · subst hin
              have e1 : (List.range i).countP (fun j => !addS (inS listed) i j) = (List.range i).countP (fun j => !inS listed j) := List.countP_congr fun j hj => by
                have : (j == i) = false := by simp at hj ⊢; omega
                simp [addS, this]
              rw [e1]
              simp [hnot, addS]
            · have e2 := ihn (by omega)
              have : (n == i) = false := by simp; omega
              rw [e2]
              simp [addS, this]
              omega
        have := hc (l.length + 1) hil1
        omega
      · rw [hSadd]
        have : (l.length == i) = false := by simp; omega
        simp [addS, this, hnl]
      · intro j o e hj hoj hej hbj
        rw [hSadd] at hj ⊢
        simp only [addS, Bool.or_eq_true, beq_iff_eq] at hj ⊢
        right
        rcases hj with rfl | hj
        · exact hrdy o e (by simpa using hoj) hej hbj
        · exact hclosed j o e hj hoj hej hbj
      · intro s
        rw [hSadd]
        have := selE_add (S := inS listed) (s := s) (l := l) (tr := tr) (i := 0) (k0 := i) (E := E) ho hr1 (by simpa using hnot) (fun k o' x hk hgt hsk hdx hdx' => by
          have := hlater k o' hk hgt (by simp [clash, hdx, hdx'])
          simp only [Nat.zero_add] at hsk
          rw [this] at hsk
          cases hsk)
        simp only [Nat.zero_add] at this
        rw [this, putE_get, putE_get, he s]
      · rw [hSadd, hsel]
        exact hr2
      · intro j hj hsj
        rw [hSadd] at hsj ⊢
        rw [hsel]
        simp only [addS, Bool.or_eq_false_iff, beq_eq_false_iff_ne] at hsj
        exact hfree2 (base + j) (by omega) (hfree j hj hsj.2)
    · obtain rfl : i = l.length := by omega
      have hothers : ∀ j, j < l.length → inS listed j = true := fun j hj => hreach j (hlp j hj)
      have e1 : ∀ s, (selE (inS listed) l tr 0 E).get s = (selE (fun _ => true) l tr 0 E).get s := fun s => selE_agree rfl fun k o hk _ => by
        have := hothers k (List.getElem?_eq_some_iff.1 hk).1
        simpa using this
      have e2 : selH pureF (inS listed) l tr 0 (L, σ) = selH pureF (fun _ => true) l tr 0 (L, σ) := selH_agree fun k o hk _ => by
        have := hothers k (List.getElem?_eq_some_iff.1 hk).1
        simpa using this
      have hf := hfree l.length (by omega) hnl
      rw [e2] at hr hf
      refine hfin g blk E' tmps w (fun s => (he s).trans (e1 s)) hr hf _ fun a w hq => ?_
      have hc1 : (List.range (l.length + 1)).countP (fun j => !inS listed j) = 1 := by
        rw [List.range_succ, List.countP_append]
        have : (List.range l.length).countP (fun j => !inS listed j) = 0 := List.countP_eq_zero.2 fun j hj => by
          rw [hothers j (by simpa using hj)]; simp
        rw [this]
        simp [hnl]
      obtain rfl : fuel = 0 := by omega
      refine ⟨?_, hq⟩
      rw [List.eq_nil_iff_forall_not_mem]
      intro j hj
      obtain ⟨h1, h2, _⟩ := (hready _ (by simpa using hsz) j).1 hj
      by_cases hjl : j = l.length
      · subst hjl
        have : l.length < listed.size := by omega
        simp [inS, Array.getD_eq_getD_getElem?, this] at h2
      · have h3 := hothers j (by omega)
        simp only [inS, Array.getD_eq_getD_getElem?] at h2 h3
        rw [Array.getElem?_setIfInBounds_ne (fun e => hjl e.symm)] at h2
        rw [h3] at h2
        cases h2

/-- A region whose order is drawn and whose last operation waits for all others: that one comes by itself. -/
theorem awp_drawn_s0 {id : Nat} {ops : List Oper} {ol : Oper} {Q : Exit → Env → Boxes → Sh → Prop} (pureF : FuncId → Bool) (esc : Nat → Bool) (hm : P.follows .mixedOrders = true) (hord : inOrder pureF (ops ++ [ol]) = true) (hlast : lastAll (ops ++ [ol]) = true)
    (hd : ((ops ++ [ol]).all fun o => o.dst.all fun k => decide (k < B.n)) = true)
    (h : ∀ base, B.g.nt ≤ base → (∀ t, t ∈ σ.live → t < base) →
      TrD P esc pureF ((ops ++ [ol]).map (·.dst)) base (fun E L σ => Tr P esc ((ops ++ [ol]).map (·.dst)) base (Q .normal) [ol] ops.length E L σ) ops 0 E L σ) : awp P B (.region id (ops ++ [ol]).toArray true) Q E L σ := by
  intro g blk tmps w hr
  refine wp_region_any hm ?_
  obtain ⟨h1, h2⟩ := hr.drew.reserve (ops.length + 1) hr.sh.dom
  obtain ⟨tr, hp, hK⟩ := trd_plan (h g.nt hr.ext.nt hr.sh.live)
  have hd' : ∀ o ∈ ops ++ [ol], ∀ k, o.dst = some k → k < B.n := fun o ho k hk => by
    have := List.all_eq_true.1 hd o ho
    simpa [hk] using this
  have hdl := hd' ol (by simp)
  have hin : inS (Array.replicate (ops.length + 1) false) = fun _ => false := by
    funext j
    simp only [inS, Array.getD_eq_getD_getElem?, Array.getElem?_replicate]
    split <;> rfl
  have hgo := any_order_s (P := P) (B := B) (base := g.nt) hord hlast (fun o ho => hd' o (by simp [ho])) hp (Q := Lift B Q) (fun g blk E' tm w he hr' hf K hQK => ?_) (ops.length + 1) (Array.replicate (ops.length + 1) false) _ blk E tmps w.drew
    (by simp) (by rw [hin]; simp) (by rw [hin]) (fun j o e hj => by rw [hin] at hj; cases hj) (fun s => by rw [hin, selE_none (fun _ _ => rfl)]) (by rw [hin, selH_none (fun _ _ => rfl)]; exact h1) (fun j hj _ => by rw [hin, selH_none (fun _ _ => rfl)]; exact h2 j hj)
  · simpa using hgo
  · have hr2 := hr'.weaken (E' := selE (fun _ => true) ops tr 0 E) (L' := (selH pureF (fun _ => true) ops tr 0 (L, σ)).1) (fun s v hv => by rw [he s]; exact hv) (fun _ _ h => h)
    have ho : (ops ++ [ol]).toArray[ops.length]? = some ol := by simp
    unfold wpOp
    rw [ho]
    simp only
    have hdl2 : (ops ++ [ol]).toArray.toList.map (·.dst) = (ops ++ [ol]).map (·.dst) := by simp
    simp only [Tr] at hK
    rcases hK with ⟨hw, ht⟩ | ⟨hw, ht⟩
    · rw [if_neg (by rw [awant_ok (ops := (ops ++ [ol]).toArray) hr2 (by rw [hdl2]; exact hw)]; simp), put_defers]
      exact hQK _ _ ⟨rfl, _, _, _, _, _, hr2.putE_skip ol.dst hdl, ht⟩
    · rw [if_pos (awant_ok (ops := (ops ++ [ol]).toArray) hr2 (by rw [hdl2]; exact hw))]
      left
      rcases ht with ⟨v, L', σ', hs, ht⟩ | ⟨f, args, R, hc, ha, ht⟩
      · refine step_wp hr2 hf hdl hs fun g' blk' tm w' hr3 hm3 => ?_
        exact hQK _ _ ⟨rfl, _, _, _, _, _, hr3, ht⟩
      · refine call_wp hr2 hdl hc ha fun r σ' g' tm w' e1 hr3 hp3 => ?_
        exact hQK _ _ ⟨rfl, _, _, _, _, _, hr3, ht r σ' e1⟩
/-- The same, the list as it stands; and what follows. -/
theorem awp_drawn_ne {id : Nat} {l : List Oper} {Q : Exit → Env → Boxes → Sh → Prop} (n : Nat) {ol : Oper} (pureF : FuncId → Bool) (esc : Nat → Bool) (hl : l = l.take n ++ [ol]) (hn : (l.take n).length = n) (hm : P.follows .mixedOrders = true) (hord : inOrder pureF l = true) (hlast : lastAll l = true)
    (hd : (l.all fun o => o.dst.all fun k => decide (k < B.n)) = true)
    (h : ∀ K : Env → Boxes → Sh → Prop, (∀ E L σ, Q .normal E L σ → K E L σ) → ∀ base, B.g.nt ≤ base → (∀ t, t ∈ σ.live → t < base) →
      TrD P esc pureF (l.map (·.dst)) base (fun E L σ => Tr P esc (l.map (·.dst)) base K [ol] n E L σ) (l.take n) 0 E L σ) : awp P B (.region id l.toArray true) Q E L σ := by
  have h1 := awp_drawn_s0 (P := P) (B := B) (id := id) (ops := l.take n) (ol := ol) (Q := Q) (E := E) (L := L) (σ := σ) pureF esc hm (by rw [← hl]; exact hord) (by rw [← hl]; exact hlast) (by rw [← hl]; exact hd) (fun base hb hf => by
    rw [← hl, hn]
    exact h _ (fun _ _ _ h => h) base hb hf)
  rw [← hl] at h1
  exact h1
theorem awp_drawn_n {id : Nat} {l : List Oper} {y : Code} {Q : Exit → Env → Boxes → Sh → Prop} (n : Nat) {ol : Oper} (pureF : FuncId → Bool) (esc : Nat → Bool) (hl : l = l.take n ++ [ol]) (hn : (l.take n).length = n) (hm : P.follows .mixedOrders = true) (hord : inOrder pureF l = true) (hlast : lastAll l = true)
    (hd : (l.all fun o => o.dst.all fun k => decide (k < B.n)) = true)
    (h : ∀ K : Env → Boxes → Sh → Prop, (∀ E L σ, awp P B y Q E L σ → K E L σ) → ∀ base, B.g.nt ≤ base → (∀ t, t ∈ σ.live → t < base) →
      TrD P esc pureF (l.map (·.dst)) base (fun E L σ => Tr P esc (l.map (·.dst)) base K [ol] n E L σ) (l.take n) 0 E L σ) : awp P B (.seq (.region id l.toArray true) y) Q E L σ :=
  awp_seq (awp_drawn_ne n pureF esc hl hn hm hord hlast hd h)
/-- A region in the order of the text; and numbers from 'base' on are of nothing yet. -/
theorem awp_region2 {id : Nat} {ops : List Oper} {esc : Nat → Bool} {Q : Exit → Env → Boxes → Sh → Prop} (hd : (ops.all fun o => o.dst.all fun k => decide (k < B.n)) = true)
    (h : ∀ base, B.g.nt ≤ base → (∀ t, t ∈ σ.live → t < base) → (∀ n, base ≤ n → σ.ob n = none) → Tr P esc (ops.map (·.dst)) base (Q .normal) ops 0 E L σ) : awp P B (.region id ops.toArray false) Q E L σ := by
  intro g blk tmps w hr
  refine wp_region_lit ?_
  obtain ⟨h1, h2⟩ := hr.reserve ops.length hr.sh.dom
  refine tr_sound (fun g blk E L σ tm w hr hK => ⟨rfl, g, blk, E, L, σ, hr, hK⟩) ops 0 E L σ (h g.nt hr.ext.nt hr.sh.live hr.sh.dom) _ blk tmps w h1 (fun j _ hj => h2 j (by omega)) fun o ho k hk => ?_
  have := List.all_eq_true.1 hd o ho
  simpa [hk] using this
theorem awp_region2_k {id : Nat} {ops : List Oper} {y : Code} {Q : Exit → Env → Boxes → Sh → Prop} (esc : Nat → Bool) (hd : (ops.all fun o => o.dst.all fun k => decide (k < B.n)) = true)
    (h : ∀ K : Env → Boxes → Sh → Prop, (∀ E L σ, awp P B y Q E L σ → K E L σ) → ∀ base, B.g.nt ≤ base → (∀ t, t ∈ σ.live → t < base) → (∀ n, base ≤ n → σ.ob n = none) → Tr P esc (ops.map (·.dst)) base K ops 0 E L σ) : awp P B (.seq (.region id ops.toArray false) y) Q E L σ :=
  awp_seq (awp_region2 hd (h _ fun _ _ _ h => h))
theorem awp_region2_e {id : Nat} {ops : List Oper} {Q : Exit → Env → Boxes → Sh → Prop} (esc : Nat → Bool) (hd : (ops.all fun o => o.dst.all fun k => decide (k < B.n)) = true)
    (h : ∀ K : Env → Boxes → Sh → Prop, (∀ E L σ, Q .normal E L σ → K E L σ) → ∀ base, B.g.nt ≤ base → (∀ t, t ∈ σ.live → t < base) → (∀ n, base ≤ n → σ.ob n = none) → Tr P esc (ops.map (·.dst)) base K ops 0 E L σ) : awp P B (.region id ops.toArray false) Q E L σ :=
  awp_region2 hd (h _ fun _ _ _ h => h)
/-- A region whose order is drawn; and numbers from 'base' on are of nothing yet. -/
theorem awp_drawn2_k {id : Nat} {ops : List Oper} {y : Code} {Q : Exit → Env → Boxes → Sh → Prop} (pureF : FuncId → Bool) (esc : Nat → Bool) (hm : P.follows .mixedOrders = true) (hord : inOrder pureF ops = true)
    (hd : (ops.all fun o => o.dst.all fun k => decide (k < B.n)) = true)
    (h : ∀ K : Env → Boxes → Sh → Prop, (∀ E L σ, awp P B y Q E L σ → K E L σ) → ∀ base, B.g.nt ≤ base → (∀ t, t ∈ σ.live → t < base) → (∀ n, base ≤ n → σ.ob n = none) → TrD P esc pureF (ops.map (·.dst)) base K ops 0 E L σ) : awp P B (.seq (.region id ops.toArray true) y) Q E L σ := by
  refine awp_seq ?_
  intro g blk tmps w hr
  refine wp_region_any hm ?_
  obtain ⟨h1, h2⟩ := hr.drew.reserve ops.length hr.sh.dom
  obtain ⟨tr, hp, hK⟩ := trd_plan (h _ (fun _ _ _ h => h) g.nt hr.ext.nt hr.sh.live hr.sh.dom)
  have hd' : ∀ o ∈ ops, ∀ k, o.dst = some k → k < B.n := fun o ho k hk => by
    have := List.all_eq_true.1 hd o ho
    simpa [hk] using this
  have hin : inS (Array.replicate ops.length false) = fun _ => false := by
    funext j
    simp only [inS, Array.getD_eq_getD_getElem?, Array.getElem?_replicate]
    split <;> rfl
  have := any_order (P := P) (B := B) (base := g.nt) hord hd' hp (Q := Lift B (Then (awp P B y Q) Q)) (fun g blk E' tm w he hr' => ⟨rfl, g, blk, E', _, _, hr', KI_awp _ _ _ _ he hK⟩) ops.length (Array.replicate ops.length false) _ blk E tmps w.drew
    (by simp) (by rw [hin]; simp) (fun j o e hj => by rw [hin] at hj; cases hj) (fun s => by rw [hin, selE_none (fun _ _ => rfl)]) (by rw [hin, selH_none (fun _ _ => rfl)]; exact h1) (fun j hj _ => by rw [hin, selH_none (fun _ _ => rfl)]; exact h2 j hj)
  simpa using this
end
end Go.Am
namespace Go.Am
open Go

theorem acells_more {L : Boxes} {σ : Sh} {n : Nat} {x : Ob} (hn : σ.ob n = none) {a : AV} {cs : List AV} (h : acells L σ a = some cs) : acells L (σ.setOb n x) a = some cs := by
  cases a with
  | ptr id off =>
    simp only [acells] at h ⊢
    have : (σ.setOb n x).ob id = σ.ob id := by
      simp only [Sh.setOb]
      rw [if_neg]
      intro e
      rw [e, hn] at h
      cases h
    rw [this]
    exact h
  | _ => exact h

section
variable {P : Program} {esc : Nat → Bool} {pureF : FuncId → Bool} {dl : List (Option Tmp)}

theorem astep_more {num n : Nat} {x : Ob} {o : Oper} {E : Env} {L L1 : Boxes} {σ σ1 : Sh} {v : Option AV} (hn : σ.ob n = none) (ht : touchOf pureF o ≠ .write) (h : astep P esc num o E L σ = some (v, L1, σ1)) :
    astep P esc num o E L (σ.setOb n x) = some (v, L, σ.setOb n x) := by
  cases hk : touchOf pureF o with
  | write => exact absurd hk ht
  | none => exact (astep_none (L' := L) (σ' := σ.setOb n x) hk h).2
  | read =>
    obtain ⟨rfl, rfl⟩ := astep_read hk h
    obtain ⟨dst, op, ty, pos, after, guard⟩ := o
    cases op with
    | load t a =>
      unfold astep at h ⊢
      simp only [aq, apure] at h ⊢
      cases hl : look E a with
      | none => rw [hl] at h; simp [aeff] at h
      | some y =>
        rw [hl] at h
        simp only at h ⊢
        cases hc : acells L1 σ1 y with
        | none => rw [hc] at h; simp [aeff] at h
        | some cs =>
          rw [hc] at h
          rw [acells_more hn hc]
          simp only at h ⊢
          cases hv : aload P t cs with
          | none => rw [hv] at h; simp [aeff] at h
          | some z => rw [hv] at h; cases h; rfl
    | call c =>
      obtain ⟨callee, args, tys⟩ := c
      cases callee with
      | builtin b => cases b <;> simp [touchOf] at hk
      | value f => cases f <;> simp [touchOf] at hk; split at hk <;> cases hk
      | _ => simp [touchOf] at hk
    | _ => simp [touchOf] at hk

theorem Fact.more {num n : Nat} {x : Ob} {o : Oper} {E : Env} {L : Boxes} {σ : Sh} {r : Rec} (hn : σ.ob n = none) (ht : touchOf pureF o ≠ .write) (h : Fact P esc pureF dl num o E L σ r) : Fact P esc pureF dl num o E L (σ.setOb n x) ⟨r.v, L, σ.setOb n x⟩ := by
  cases h with
  | skip hw => exact .skip hw
  | step hw hd hs => exact .step hw hd (astep_more hn ht hs)
  | pcall hw ht' hc hp => exact .pcall hw ht' hc hp
  | acall hw ht' => exact absurd ht' ht

theorem selH_quiet {S : Nat → Bool} : ∀ {l : List Oper} {tr : List Rec} {i : Nat} {H : Boxes × Sh}, (∀ o ∈ l, touchOf pureF o ≠ .write) → selH pureF S l tr i H = H
  | [], _, _, _, _ => rfl
  | _ :: _, [], _, _, _ => rfl
  | o :: l, r :: tr, i, H, h => by
    have h1 : (touchOf pureF o == .write) = false := by
      have := h o (by simp)
      simpa using this
    simp only [selH, h1, Bool.and_false, Bool.false_eq_true, if_false]
    exact selH_quiet fun o' ho => h o' (by simp [ho])
end

/-- What is asked of the list: quiet operations, the new object's, the last. -/
def inOrderA (pureF : FuncId → Bool) (l : List Oper) (n da : Nat) : Bool :=
  let m := masks l []
  let dl := l.map (·.dst)
  (l.length == n + 2) &&
  (l.zipIdx.all fun (o, j) => o.after.toList.all fun e => !Region.binds .any e || e.on < j) &&
  (((l.take n).zipIdx.all fun (b, j) => (l.take n).zipIdx.all fun (a, i) => !(decide (i < j) && clash pureF dl a b) || (m.getD j 0).testBit i)) &&
  ((List.range (n + 1)).all fun j => (m.getD (n + 1) 0).testBit j) &&
  ((l.take n).all fun o => touchOf pureF o != .write && !(slotsOf dl o).contains da && o.dst != some da)

section
variable {P : Program} {B : Base} {esc : Nat → Bool} {pureF : FuncId → Bool} {base : Nat}

theorem any_order_a {l : List Oper} {oa ol : Oper} {da : Nat} {cs : List AV} (hchk : inOrderA pureF (l ++ [oa, ol]) l.length da = true) (hoad : oa.dst = some da) (hoag : oa.guard = none) (hoaa : oa.after = #[]) (hda : da < B.n) (hd : ∀ o ∈ l, ∀ k, o.dst = some k → k < B.n)
    {E : Env} {L : Boxes} {σ : Sh} {tr : List Rec} (hp : Plan P esc pureF ((l ++ [oa, ol]).map (·.dst)) base l 0 E L σ tr) (hσn : σ.ob (base + l.length) = none)
    (ha : ∀ E', astep P esc (base + l.length) oa E' L σ = some (some (.ptr (base + l.length) 0), L, σ.setOb (base + l.length) (.cells cs)))
    {Q : Exit → Act → World → Prop}
    (hfin : ∀ g blk E' tm w, (∀ s, E'.get s = Env.get ((da, .ptr (base + l.length) 0) :: selE (fun _ => true) l tr 0 E) s) → Rel B g blk E' L (σ.setOb (base + l.length) (.cells cs)) tm w →
      Free B g (σ.setOb (base + l.length) (.cells cs)) (base + (l.length + 1)) → ∀ K : Act → World → Prop, (∀ a w, Q .normal a w → K a w) → wpOp P (l ++ [oa, ol]).toArray Q (l.length + 1) K ⟨tm, []⟩ w) :
    ∀ (fuel : Nat) (listed : Array Bool) (g : Gh) (blk : Nat → Option Nat) (E' : Env) (tmps : Array Value) (w : World), listed.size = l.length + 2 → ((List.range (l.length + 2)).countP fun j => !inS listed j) = fuel →
      inS listed (l.length + 1) = false →
      (∀ j o e, inS listed j = true → (l ++ [oa, ol]).toArray[j]? = some o → e ∈ o.after → Region.binds .any e = true → inS listed e.on = true) →
      (∀ s, s ≠ da → E'.get s = (selE (inS listed) l tr 0 E).get s) → (inS listed l.length = true → E'.get da = some (.ptr (base + l.length) 0)) →
      Rel B g blk E' L (if inS listed l.length then σ.setOb (base + l.length) (.cells cs) else σ) tmps w →
      (∀ j, j < l.length + 2 → inS listed j = false → Free B g (if inS listed l.length then σ.setOb (base + l.length) (.cells cs) else σ) (base + j)) → wpAny P .any (l ++ [oa, ol]).toArray Q fuel listed ⟨tmps, []⟩ w := by
  unfold inOrderA at hchk
  simp only [Bool.and_eq_true] at hchk
  obtain ⟨⟨⟨⟨c0, c1⟩, c2⟩, c3⟩, c4⟩ := hchk
  have hlen : (l ++ [oa, ol]).length = l.length + 2 := by simp
  have htk : (l ++ [oa, ol]).take l.length = l := by simp
  rw [htk] at c2 c4
  have hz : ∀ (m : List Oper) (j : Nat) (o : Oper), m[j]? = some o → (o, j) ∈ m.zipIdx := fun m j o ho => by
    rw [List.mem_zipIdx_iff_getElem?]
    exact ho
  have up : ∀ {k o'}, l[k]? = some o' → (l ++ [oa, ol])[k]? = some o' := fun {k o'} hk => by
    rw [List.getElem?_append_left (List.getElem?_eq_some_iff.1 hk).1]; exact hk
  have mp : ∀ k i, k < l.length + 2 → ((masks (l ++ [oa, ol]) []).getD k 0).testBit i = true → Path (l ++ [oa, ol]).toArray k i := fun k i hk hb =>
    masks_path (ops := (l ++ [oa, ol]).toArray) (l ++ [oa, ol]) [] (fun k o hk => by simpa using hk) (fun k i hk => by simp at hk) k i (by simpa using hk) hb
  have ord1 : ∀ (j : Nat) (o : Oper) (e : Edge), (l ++ [oa, ol])[j]? = some o → e ∈ o.after → Region.binds .any e = true → e.on < j := fun j o e ho he hb => by
    have := List.all_eq_true.1 (List.all_eq_true.1 c1 _ (hz _ j o ho)) e (by simpa using he)
    simpa [hb] using this
  have ord2 : ∀ (i j : Nat) (a b : Oper), l[i]? = some a → l[j]? = some b → i < j → clash pureF ((l ++ [oa, ol]).map (·.dst)) a b = true → Path (l ++ [oa, ol]).toArray j i := fun i j a b hia hjb hij hc => by
    have := List.all_eq_true.1 (List.all_eq_true.1 c2 _ (hz _ j b hjb)) _ (hz _ i a hia)
    simp only [hij, hc, decide_true, Bool.and_self, Bool.not_true, Bool.false_or] at this
    have hj := (List.getElem?_eq_some_iff.1 hjb).1
    exact mp j i (by omega) this
  have hlp : ∀ j, j < l.length + 1 → Path (l ++ [oa, ol]).toArray (l.length + 1) j := fun j hj =>
    mp _ j (by omega) (List.all_eq_true.1 c3 j (by simpa using hj))
  have hquiet : ∀ o ∈ l, touchOf pureF o ≠ .write ∧ da ∉ slotsOf ((l ++ [oa, ol]).map (·.dst)) o ∧ o.dst ≠ some da := fun o ho => by
    have := List.all_eq_true.1 c4 o ho
    generalize (l ++ [oa, ol]).map (·.dst) = dl at this ⊢
    simp only [Bool.and_eq_true, bne_iff_ne, ne_eq, Bool.not_eq_true', List.contains_eq_mem, decide_eq_false_iff_not] at this
    exact ⟨this.1.1, this.1.2, this.2⟩
  have hq : ∀ o ∈ l, touchOf pureF o ≠ .write := fun o ho => (hquiet o ho).1
  have hready : ∀ (listed : Array Bool), listed.size = l.length + 2 → ∀ i, i ∈ Region.ready .any (l ++ [oa, ol]).toArray listed ↔ i < l.length + 2 ∧ inS listed i = false ∧ ∀ o e, (l ++ [oa, ol])[i]? = some o → e ∈ o.after → Region.binds .any e = true → inS listed e.on = true := by
    intro listed hsz i
    simp only [Region.ready, List.mem_filter, List.mem_range, List.size_toArray, Bool.and_eq_true, hlen]
    constructor
    · rintro ⟨h1, h2, h3⟩
      have hi : i < listed.size := by omega
      refine ⟨h1, by simpa [inS, Array.getD, hi] using h2, fun o e ho he hb => ?_⟩
      simp only [List.getElem?_toArray, ho, Option.map_some, Option.getD_some, Array.all_eq_true'] at h3
      have := h3 e he
      simpa [hb, inS] using this
    · rintro ⟨h1, h2, h3⟩
      have hi : i < listed.size := by omega
      refine ⟨h1, by simpa [inS, Array.getD, hi] using h2, ?_⟩
      have ho : (l ++ [oa, ol])[i]? = some (l ++ [oa, ol])[i] := List.getElem?_eq_getElem (by omega)
      simp only [List.getElem?_toArray, ho, Option.map_some, Option.getD_some, Array.all_eq_true']
      intro e he
      by_cases hb : Region.binds .any e = true
      · have := h3 _ e ho he hb
        simpa [inS, hb] using this
      · simp [hb]
  have hall : ∀ (listed : Array Bool), listed.size = l.length + 2 → Region.ready .any (l ++ [oa, ol]).toArray listed = [] → ∀ j, j < l.length + 2 → inS listed j = true := by
    intro listed hsz hnil j
    induction j using Nat.strongRecOn with
    | _ j ih =>
      intro hj
      cases hs : inS listed j with
      | true => rfl
      | false =>
        exfalso
        have : j ∈ Region.ready .any (l ++ [oa, ol]).toArray listed := (hready listed hsz j).2 ⟨hj, hs, fun o e ho he hb => ih e.on (ord1 j o e ho he hb) (Nat.lt_trans (ord1 j o e ho he hb) hj)⟩
        rw [hnil] at this
        simp at this
  intro fuel
  induction fuel with
  | zero =>
    intro listed g blk E' tmps w hsz hcount hnl
    exfalso
    have := List.countP_eq_zero.1 hcount (l.length + 1) (by simp)
    rw [hnl] at this
    simp at this
  | succ fuel ih =>
    intro listed g blk E' tmps w hsz hcount hnl hclosed he hea hr hfree
    refine ⟨fun hnil => ?_, fun i hi => ?_⟩
    · have := hall listed hsz hnil (l.length + 1) (by omega)
      rw [hnl] at this
      cases this
    obtain ⟨hil1, hnot, hrdy⟩ := (hready listed hsz i).1 hi
    have hreach : ∀ m, Path (l ++ [oa, ol]).toArray i m → inS listed m = true := by
      intro m hpm
      have : ∀ {j m : Nat}, Path (l ++ [oa, ol]).toArray j m → j = i → inS listed m = true := by
        intro j m hpm
        induction hpm with
        | edge ho' he' hb' =>
          rintro rfl
          simp only [List.getElem?_toArray] at ho'
          exact hrdy _ _ ho' he' hb'
        | more ho' he' hb' hpm' _ =>
          rintro rfl
          simp only [List.getElem?_toArray] at ho'
          exact path_closed hclosed hpm' (hrdy _ _ ho' he' hb')
      exact this hpm rfl
    have hSadd : inS (listed.setIfInBounds i true) = addS (inS listed) i := by
      funext j
      simp only [inS, addS]
      by_cases hj : j = i
      · subst hj
        have : j < listed.size := by omega
        simp [Array.getD_eq_getD_getElem?, this]
      · have h1 : (j == i) = false := by simpa using hj
        simp [h1, Array.getD_eq_getD_getElem?, Array.getElem?_setIfInBounds_ne (fun e => hj e.symm)]
    have hcnt : ((List.range (l.length + 2)).countP fun j => !inS (listed.setIfInBounds i true) j) = fuel := by
      rw [hSadd]
      have hc : ∀ n, i < n → (List.range n).countP (fun j => !inS listed j) = (List.range n).countP (fun j => !addS (inS listed) i j) + 1 := by
        intro n
        induction n with
        | zero => intro h; omega
        | succ n ihn =>
          intro hlt
          rw [List.range_succ, List.countP_append, List.countP_append]
          by_cases hin : i = n
          · subst hin
            have e1 : (List.range i).countP (fun j => !addS (inS listed) i j) = (List.range i).countP (fun j => !inS listed j) := List.countP_congr fun j hj => by
              have : (j == i) = false := by simp at hj ⊢; omega
              simp [addS, this]
            rw [e1]
            simp [hnot, addS]
          · have e2 := ihn (by omega)
            have : (n == i) = false := by simp; omega
            rw [e2]
            simp [addS, this]
            omega
      have := hc (l.length + 2) hil1
      omega
    have hcl2 : ∀ j o e, inS (listed.setIfInBounds i true) j = true → (l ++ [oa, ol]).toArray[j]? = some o → e ∈ o.after → Region.binds .any e = true → inS (listed.setIfInBounds i true) e.on = true := by
      intro j o e hj hoj hej hbj
      rw [hSadd] at hj ⊢
      simp only [addS, Bool.or_eq_true, beq_iff_eq] at hj ⊢
      right
      rcases hj with rfl | hj
      · exact hrdy o e (by simpa using hoj) hej hbj
      · exact hclosed j o e hj hoj hej hbj
    by_cases hil : i < l.length
    · have ho : l[i]? = some l[i] := List.getElem?_eq_getElem hil
      have hmem : l[i] ∈ l := List.getElem_mem hil
      obtain ⟨hqt, hqs, hqd⟩ := hquiet _ hmem
      obtain ⟨r, hr1, hfact⟩ := hp.at_ i _ ho
      simp only [Nat.zero_add] at hfact
      rw [selH_quiet hq] at hfact
      have hdone : ∀ k o', l[k]? = some o' → k < i → clash pureF ((l ++ [oa, ol]).map (·.dst)) o' l[i] = true → inS listed k = true :=
        fun k o' hk hlt hc => hreach k (ord2 k i o' _ hk ho hlt hc)
      have hlater : ∀ k o', l[k]? = some o' → i < k → clash pureF ((l ++ [oa, ol]).map (·.dst)) l[i] o' = true → inS listed k = false := by
        intro k o' hk hlt hc
        cases hs : inS listed k with
        | false => rfl
        | true =>
          have := path_closed hclosed (ord2 i k _ o' ho hk hlt hc) hs
          rw [this] at hnot
          cases hnot
      have hE : ∀ s ∈ slotsOf ((l ++ [oa, ol]).map (·.dst)) l[i], E'.get s = (selE (fun j => decide (j < i)) l tr 0 E).get s := by
        intro s hs
        rw [he s (fun e => hqs (e ▸ hs))]
        refine selE_agree rfl fun k o' hk hdst => ?_
        simp only [Nat.zero_add]
        rcases Nat.lt_trichotomy k i with hlt | rfl | hgt
        · rw [hdone k o' hk hlt (clash_a hdst hs)]
          simpa using hlt
        · rw [hnot]; simp
        · rw [hlater k o' hk hgt (clash_b hdst hs)]
          simp; omega
      have hfact2 : ∃ r2 : Rec, r2.v = r.v ∧ Fact P esc pureF ((l ++ [oa, ol]).map (·.dst)) (base + i) l[i] (selE (fun j => decide (j < i)) l tr 0 E) L (if inS listed l.length then σ.setOb (base + l.length) (.cells cs) else σ) r2 := by
        split
        · exact ⟨⟨r.v, L, σ.setOb (base + l.length) (.cells cs)⟩, rfl, hfact.more hσn hqt⟩
        · exact ⟨r, rfl, hfact⟩
      obtain ⟨r2, hrv, hfact2⟩ := hfact2
      have hnl2 : (l.length == i) = false := by simp; omega
      have hnl3 : (l.length + 1 == i) = false := by simp; omega
      have hSn : inS (listed.setIfInBounds i true) l.length = inS listed l.length := by rw [hSadd]; simp [addS, hnl2]
      refine fact_wp (ops := (l ++ [oa, ol]).toArray) (by simpa using up ho) hfact2 (E' := E') hE (fun _ => ⟨rfl, rfl⟩) hr (hfree i hil1 hnot) (hd _ hmem) ?_
      intro g' blk' tm w' L'' σ'' hH2 hr2 hfree2
      rw [if_neg hqt] at hH2
      cases hH2
      refine ih (listed.setIfInBounds i true) g' blk' (putE l[i].dst r2.v E') tm w' (by simpa using hsz) hcnt ?_ hcl2 ?_ ?_ ?_ ?_
      · rw [hSadd]; simp [addS, hnl3, hnl]
      · intro s hs
        rw [hSadd]
        have := selE_add (S := inS listed) (s := s) (l := l) (tr := tr) (i := 0) (k0 := i) (E := E) ho hr1 (by simpa using hnot) (fun k o' x hk hgt hsk hdx hdx' => by
          have := hlater k o' hk hgt (by simp [clash, hdx, hdx'])
          simp only [Nat.zero_add] at hsk
          rw [this] at hsk
          cases hsk)
        simp only [Nat.zero_add] at this
        rw [this, putE_get, putE_get, he s hs, hrv]
      · intro hsn
        rw [hSn] at hsn
        rw [putE_get, if_neg hqd]
        exact hea hsn
      · rw [hSn]; exact hr2
      · intro j hj hsj
        rw [hSadd] at hsj
        rw [hSn]
        simp only [addS, Bool.or_eq_false_iff, beq_eq_false_iff_ne] at hsj
        exact hfree2 (base + j) (by omega) (hfree j hj hsj.2)
    · by_cases hin : i = l.length
      · subst hin
        have hoa : (l ++ [oa, ol])[l.length]? = some oa := by simp
        rw [hnot] at hr hfree
        simp only [Bool.false_eq_true, if_false] at hr hfree
        have hSn : inS (listed.setIfInBounds l.length true) l.length = true := by rw [hSadd]; simp [addS]
        unfold wpOp
        rw [show (l ++ [oa, ol]).toArray[l.length]? = some oa by simpa using hoa]
        simp only
        rw [if_pos (by simp [Region.wanted, hoag])]
        left
        refine step_wp hr (hfree l.length (by omega) hnot) (fun k hk => by rw [hoad] at hk; cases hk; exact hda) (ha E') fun g' blk' tm w' hr2 hm => ?_
        rw [hoad] at hr2
        refine ih (listed.setIfInBounds l.length true) g' blk' (putE (some da) (some (.ptr (base + l.length) 0)) E') tm w' (by simpa using hsz) hcnt ?_ hcl2 ?_ ?_ ?_ ?_
        · rw [hSadd]; simp [addS, hnl]
        · intro s hs
          rw [putE_get, if_neg (fun e => hs (Option.some.inj e).symm), he s hs]
          refine selE_agree rfl fun k o' hk _ => ?_
          have : k < l.length := (List.getElem?_eq_some_iff.1 hk).1
          have h2 : (k == l.length) = false := by simp; omega
          rw [hSadd]
          simp [addS, h2]
        · intro _
          rw [putE_get, if_pos rfl]; rfl
        · rw [hSn]; exact hr2
        · intro j hj hsj
          rw [hSn]
          rw [hSadd] at hsj
          simp only [addS, Bool.or_eq_false_iff, beq_eq_false_iff_ne] at hsj
          exact (hfree j hj hsj.2).moves hm (by omega)
      · obtain rfl : i = l.length + 1 := by omega
        have hothers : ∀ j, j < l.length + 1 → inS listed j = true := fun j hj => hreach j (hlp j hj)
        have hna := hothers l.length (by omega)
        rw [hna] at hr hfree
        simp only [if_true] at hr hfree
        have e1 : ∀ s, (selE (inS listed) l tr 0 E).get s = (selE (fun _ => true) l tr 0 E).get s := fun s => selE_agree rfl fun k o hk _ => by
          have := hothers k (by have := (List.getElem?_eq_some_iff.1 hk).1; omega)
          simpa using this
        refine hfin g blk E' tmps w (fun s => ?_) hr (hfree _ (by omega) hnl) _ fun a w hq => ?_
        · by_cases hs : s = da
          · subst hs
            rw [hea hna]; simp [Env.get]
          · rw [he s hs, e1]; simp [Env.get, hs]
        have hc1 : (List.range (l.length + 2)).countP (fun j => !inS listed j) = 1 := by
          rw [List.range_succ, List.countP_append]
          have : (List.range (l.length + 1)).countP (fun j => !inS listed j) = 0 := List.countP_eq_zero.2 fun j hj => by
            rw [hothers j (by simpa using hj)]; simp
          rw [this]
          simp [hnl]
        obtain rfl : fuel = 0 := by omega
        refine ⟨?_, hq⟩
        rw [List.eq_nil_iff_forall_not_mem]
        intro j hj
        obtain ⟨h1, h2, _⟩ := (hready _ (by simpa using hsz) j).1 hj
        rw [hSadd] at h2
        simp only [addS, Bool.or_eq_false_iff, beq_eq_false_iff_ne] at h2
        rw [hothers j (by omega)] at h2
        cases h2.2

theorem awp_drawn_a {E : Env} {L : Boxes} {σ : Sh} {id : Nat} {l : List Oper} {y : Code} {Q : Exit → Env → Boxes → Sh → Prop} (n da : Nat) {oa ol : Oper} {e : TypeId} {cs : List AV} (pureF : FuncId → Bool) (esc : Nat → Bool) (hl : l = l.take n ++ [oa, ol]) (hn : (l.take n).length = n) (hm : P.follows .mixedOrders = true)
    (hchk : inOrderA pureF l n da = true) (hoad : oa.dst = some da) (hoag : oa.guard = none) (hoaa : oa.after = #[]) (hoao : oa.op = .alloc e) (hesc : esc da = true) (hz : azero P e = some cs) (hq : (l.take n).all (fun o => touchOf pureF o != .write) = true)
    (hd : (l.all fun o => o.dst.all fun k => decide (k < B.n)) = true)
    (h : ∀ K : Env → Boxes → Sh → Prop, (∀ E L σ, awp P B y Q E L σ → K E L σ) → ∀ base, B.g.nt ≤ base → (∀ t, t ∈ σ.live → t < base) → (∀ n, base ≤ n → σ.ob n = none) →
      TrD P esc pureF (l.map (·.dst)) base (fun E L σ => Tr P esc (l.map (·.dst)) base K [ol] (n + 1) ((da, .ptr (base + n) 0) :: E) L (σ.setOb (base + n) (.cells cs))) (l.take n) 0 E L σ) : awp P B (.seq (.region id l.toArray true) y) Q E L σ := by
  refine awp_seq ?_
  intro g blk tmps w hr
  have hlen : l.length = n + 2 := by
    have := congrArg List.length hl
    simp only [List.length_append, hn, List.length_cons, List.length_nil] at this
    exact this
  refine wp_region_any hm ?_
  obtain ⟨h1, h2⟩ := hr.drew.reserve (n + 2) hr.sh.dom
  obtain ⟨tr, hp, hK⟩ := trd_plan (h _ (fun _ _ _ h => h) g.nt hr.ext.nt hr.sh.live hr.sh.dom)
  have hq' : ∀ o ∈ l.take n, touchOf pureF o ≠ .write := fun o ho => by
    have := List.all_eq_true.1 hq o ho
    simpa using this
  rw [selH_quiet hq'] at hK
  have hd' : ∀ o ∈ l, ∀ k, o.dst = some k → k < B.n := fun o ho k hk => by
    have := List.all_eq_true.1 hd o ho
    simpa [hk] using this
  have hmoa : oa ∈ l := by rw [hl]; simp
  have hmol : ol ∈ l := by rw [hl]; simp
  have hin : inS (Array.replicate (n + 2) false) = fun _ => false := by
    funext j
    simp only [inS, Array.getD_eq_getD_getElem?, Array.getElem?_replicate]
    split <;> rfl
  have hastep : ∀ E', astep P esc (g.nt + (l.take n).length) oa E' L σ = some (some (.ptr (g.nt + (l.take n).length) 0), L, σ.setOb (g.nt + (l.take n).length) (.cells cs)) := fun E' => by
    obtain ⟨dst, op, ty, pos, after, guard⟩ := oa
    simp only at hoad hoao
    subst hoad hoao
    unfold astep
    simp only [aq, apure]
    unfold aeff
    simp only [hz]
    rw [if_pos hesc]
  have hgo := any_order_a (P := P) (B := B) (base := g.nt) (esc := esc) (pureF := pureF) (l := l.take n) (oa := oa) (ol := ol) (da := da) (cs := cs) (by rw [← hl, hn]; exact hchk) hoad hoag hoaa (hd' oa hmoa da hoad) (fun o ho => hd' o (List.mem_of_mem_take ho))
    (tr := tr) (E := E) (L := L) (σ := σ) (by rw [← hl]; exact hp) (hr.sh.dom _ (Nat.le_add_right _ _)) hastep (Q := Lift B (Then (awp P B y Q) Q)) (fun g' blk E' tm w he hr' hf K hQK => ?_) (n + 2) (Array.replicate (n + 2) false) _ blk E tmps w.drew
    (by simp [hn]) (by rw [hin, hn]; simp) (by rw [hin]) (fun j o e hj => by rw [hin] at hj; cases hj) (fun s _ => by rw [hin, selE_none (fun _ _ => rfl)]) (by rw [hin]; intro hh; cases hh) (by rw [hin]; exact h1) (fun j hj _ => by rw [hin]; exact h2 j (by rw [hn] at hj; omega))
  · rw [← hl] at hgo
    rw [show l.toArray.size = n + 2 by simpa using hlen]
    exact hgo
  · rw [hn] at hr' hf he ⊢
    have hr2 := hr'.weaken (E' := (da, .ptr (g.nt + n) 0) :: selE (fun _ => true) (l.take n) tr 0 E) (L' := L) (fun s v hv => by rw [he s]; exact hv) (fun _ _ h => h)
    have ho : (l.take n ++ [oa, ol]).toArray[n + 1]? = some ol := by
      simp only [List.getElem?_toArray]
      rw [List.getElem?_append_right (by rw [hn]; omega), hn]
      simp
    unfold wpOp
    rw [ho]
    simp only
    rw [← hl]
    have hdl := hd' ol hmol
    have hdl2 : l.toArray.toList.map (·.dst) = l.map (·.dst) := by simp
    simp only [Tr] at hK
    rcases hK with ⟨hw, ht⟩ | ⟨hw, ht⟩
    · rw [if_neg (by rw [awant_ok (ops := l.toArray) hr2 (by rw [hdl2]; exact hw)]; simp), put_defers]
      exact hQK _ _ ⟨rfl, _, _, _, _, _, hr2.putE_skip ol.dst hdl, ht⟩
    · rw [if_pos (awant_ok (ops := l.toArray) hr2 (by rw [hdl2]; exact hw))]
      left
      rcases ht with ⟨v, L', σ', hs, ht⟩ | ⟨f, args, R, hc, ha, ht⟩
      · refine step_wp hr2 hf hdl hs fun g' blk' tm w' hr3 hm3 => ?_
        exact hQK _ _ ⟨rfl, _, _, _, _, _, hr3, ht⟩
      · refine call_wp hr2 hdl hc ha fun r σ' g' tm w' e1 hr3 hp3 => ?_
        exact hQK _ _ ⟨rfl, _, _, _, _, _, hr3, ht r σ' e1⟩
end
end Go.Am
namespace Go.Am
open Go

def sh0 : Sh := ⟨fun _ => none, []⟩
def vec0 (w : World) (b : Nat) : Option (List Value) :=
  match w.heap[b]? with
  | some (.cells vals _ _) => some vals.toList
  | _ => none
def gh0 (w : World) : Gh := ⟨vec0 w, fun _ => none, fun _ => none, 0⟩

theorem shrel0 (w : World) : ShRel (gh0 w) sh0 w where
  vecs := fun b c h => by
    simp only [gh0, vec0] at h
    split at h
    · next vals T fr hb => cases h; exact ⟨vals, T, fr, hb, List.prefix_refl _⟩
    · cases h
  obs := fun id o h => by cases h
  inj := fun id id' o o' b h => by cases h
  toks := fun t h => by cases h
  tinj := fun t t' b e e' h => by cases h
  live := fun t h => by cases h
  fresh := fun n _ => ⟨rfl, rfl⟩

theorem nowr0 (w : World) (b : Nat) : ¬ Wr (gh0 w) sh0 b := by
  rintro (⟨id, o, h, _⟩ | ⟨t, h, _⟩) <;> cases h

/-- A call of values, on the machine. -/
theorem PCalls.machine {P : Program} {f : FuncId} {args : List AV} {r : AV} (h : PCalls P f args r) (w : World) (vs : Array Value) (ha : AreVR (gh0 w) args vs.toList) :
    Calls P f vs w fun e w' => (∃ g v, e = .returned v ∧ VR g r v) ∧ Go.RowKit.Below w.heap.size w w' := by
  refine ((h sh0).run (gh0 w) w vs (shrel0 w) ha).mono fun e w' ⟨r', σ', g', v, e1, e2, e3, e4⟩ => ?_
  obtain ⟨rfl, rfl⟩ := e4
  exact ⟨⟨g', v, e1, e2⟩, e3.frame.os, e3.frame.tape, e3.frame.output, e3.frame.size, fun k hk => (e3.frame.keep k hk (nowr0 w k)).1⟩

/-- A call that answers a truth value, on the machine. -/
theorem PCalls.truth {P : Program} {f : FuncId} {args : List AV} {b : Bool} (h : PCalls P f args (.bool b)) (w : World) (vs : Array Value) (ha : AreVR (gh0 w) args vs.toList) :
    Calls P f vs w fun e w' => e = .returned (.bool b) ∧ Go.RowKit.Below w.heap.size w w' := by
  refine (h.machine w vs ha).mono fun e w' ⟨⟨g, v, e1, e2⟩, e3⟩ => ?_
  cases e2
  exact ⟨e1, e3⟩

theorem areVR_nil (g : Gh) : AreVR g [] [] := ⟨rfl, fun i hi => absurd hi (by simp)⟩
theorem areVR_cons {g : Gh} {a : AV} {v : Value} {xs : List AV} {vs : List Value} (h : VR g a v) (k : AreVR g xs vs) : AreVR g (a :: xs) (v :: vs) := by
  refine ⟨by simp [k.1], fun i hi => ?_⟩
  cases i with
  | zero => exact h
  | succ i => exact k.2 i (by simpa using hi)

theorem VR.agg' {g : Gh} {cs : List AV} {vs : List Value} (h : AreVR g cs vs) : VR g (.agg cs) (.agg vs.toArray) :=
  .agg cs vs.toArray (by simpa using h.1) fun i hi => by
    have := h.2 i hi
    simpa using this
end Go.Am
namespace Go.Am
open Go
open Nat renaming reduceEqDiff → za, reduceAdd → zb, reduceMul → zc, reducePow → zd, reduceLeDiff → ze, reduceSub → zf, reduceBEq → zg, reduceBNe → zh, reduceDiv → zi, reduceMod → zj
open Int renaming reduceLT → zk, reduceLE → zl, reduceEq → zm, reduceNe → zn, reduceToNat → zo
theorem yb {p : Prop} [Decidable p] : (decide p = true) = p := decide_eq_true_eq
theorem yc {p : Prop} [Decidable p] : decide p = false ↔ ¬p := decide_eq_false_iff_not
theorem yd {α : Type _} [BEq α] [LawfulBEq α] {a b : α} : (a == b) = true ↔ a = b := beq_iff_eq
theorem ye {α : Type _} [BEq α] [LawfulBEq α] {a b : α} : (a == b) = false ↔ a ≠ b := beq_eq_false_iff_ne
theorem yf {α : Type _} [BEq α] [LawfulBEq α] {a b : α} : (a != b) = true ↔ a ≠ b := bne_iff_ne
theorem yg {α : Type _} [BEq α] [LawfulBEq α] {a b : α} : (a != b) = false ↔ a = b := bne_eq_false_iff_eq
theorem yh {α : Sort _} (a b : α) : (a ≠ b) = ¬(a = b) := ne_eq a b
theorem yi (a b : Bool) : ((a && b) = true) = (a = true ∧ b = true) := Bool.and_eq_true a b
theorem yj {a b : Bool} : (a || b) = false ↔ a = false ∧ b = false := by cases a <;> cases b <;> decide
theorem yk {b : Bool} : ((!b) = true) = (b = false) := Bool.not_eq_true' b
theorem yl {b : Bool} : ((!b) = false) = (b = true) := Bool.not_eq_false' b
theorem ym {a b : Int} : ¬(a < b) ↔ b ≤ a := Int.not_lt
theorem yn {a b : Int} : ¬(a ≤ b) ↔ b < a := Int.not_le
theorem yo {p : Prop} [Decidable p] : ¬¬p ↔ p := Decidable.not_not
attribute [go_sem] List.map_cons List.map_nil List.length_cons List.length_nil Option.map_some Bool.false_eq_true Option.getD_some List.drop_succ_cons List.drop_zero List.take_succ_cons List.take_zero List.take_nil Nat.zero_le Nat.le_refl List.head?_cons List.getElem?_cons_succ List.getElem?_cons_zero beq_self_eq_true bne_self_eq_false Nat.zero_add Nat.mul_one List.length_replicate List.length_take List.length_drop Option.isSome_some Option.isSome_none List.all_cons List.all_nil Bool.and_true Bool.true_and Bool.not_true Bool.not_false Bool.and_self List.append_nil List.nil_append List.cons_append decide_true decide_false and_self true_and and_true if_true if_false Option.any_some List.contains_cons Bool.true_or Bool.or_true Int.toNat_natCast List.length_append List.getElem?_map List.length_map Int.natCast_nonneg ne_eq not_true_eq_false not_false_eq_true
attribute [go_sem ↓] Option.elim_some Option.elim_none
def dot (d : Int × Int) : AV := .agg [.int .i64 d.1, .int .i64 d.2]
def dots (l : List (Int × Int)) (t : Tag) : AV := .list (l.map dot) t
attribute [go_sem] dot dots
theorem dot_sized (x : Int × Int) : (dot x).cells.length = 2 ∧ (dot x).cells.all AV.one = true := ⟨rfl, rfl⟩
@[go_sem] theorem dots_sized (l : List (Int × Int)) : sized 2 (List.map dot l) = true := sized_map dot_sized l
def dLess (a b : Int × Int) : Bool := decide (a.1 < b.1) || (a.1 == b.1 && decide (a.2 < b.2))
def dCheck (a : Int × Int) : Bool := decide (1 ≤ a.1) && (decide (a.1 ≤ 1099511627776) && (decide (1 ≤ a.2) && decide (a.2 ≤ 1099511627776)))
theorem c160 (a b : Int × Int) : PCalls Go.Proofs.Tryz.prog 160 [dot a, dot b] (.bool (dLess a b)) := by
  rcases g0 : decide (a.1 < b.1) with _ | _
  · rcases g1 : a.1 == b.1 with _ | _
    · simp only [dLess, Bool.or_true, Bool.or_false, Bool.false_or, Bool.and_true, Bool.and_false, Bool.false_and, Bool.true_and, Bool.true_or, Bool.or_self, Bool.and_self, Bool.cond_true, Bool.cond_false, Bool.not_true, Bool.not_false, g0, g1]
      refine pcalls_of_awp Go.Proofs.Tryz.func160 rfl (by decide) (Nat.le_of_ble_eq_true rfl) ?_
      intro B σ hB ho hob
      refine awp_region_k (fun _ => false) (by rw [hB]; rfl) fun K hK base hbase hfr => tr_run ?_
      simp only [go_sem, ↓reduceIte, za, zb, zc, zd, ze, zf, zg, zh, zi, zj, zk, zl, zm, zn, zo, g0, g1]
      refine tr_nil (hK _ _ _ ?_)
      clear hK K hbase hfr base
      refine awp_region_k (fun _ => false) (by rw [hB]; rfl) fun K hK base hbase hfr => tr_run ?_
      simp only [go_sem, ↓reduceIte, za, zb, zc, zd, ze, zf, zg, zh, zi, zj, zk, zl, zm, zn, zo, g0, g1]
      refine tr_nil (hK _ _ _ ?_)
      clear hK K hbase hfr base
      refine awp_ret ?_
      refine ⟨_, rfl, ?_, fun _ _ h => h, fun _ h => h⟩
      exact VW.refl _
    · simp only [dLess, Bool.or_true, Bool.or_false, Bool.false_or, Bool.and_true, Bool.and_false, Bool.false_and, Bool.true_and, Bool.true_or, Bool.or_self, Bool.and_self, Bool.cond_true, Bool.cond_false, Bool.not_true, Bool.not_false, g0, g1]
      refine pcalls_of_awp Go.Proofs.Tryz.func160 rfl (by decide) (Nat.le_of_ble_eq_true rfl) ?_
      intro B σ hB ho hob
      refine awp_region_k (fun _ => false) (by rw [hB]; rfl) fun K hK base hbase hfr => tr_run ?_
      simp only [go_sem, ↓reduceIte, za, zb, zc, zd, ze, zf, zg, zh, zi, zj, zk, zl, zm, zn, zo, g0, g1]
      refine tr_nil (hK _ _ _ ?_)
      clear hK K hbase hfr base
      refine awp_region_k (fun _ => false) (by rw [hB]; rfl) fun K hK base hbase hfr => tr_run ?_
      simp only [go_sem, ↓reduceIte, za, zb, zc, zd, ze, zf, zg, zh, zi, zj, zk, zl, zm, zn, zo, g0, g1]
      refine tr_nil (hK _ _ _ ?_)
      clear hK K hbase hfr base
      refine awp_ret ?_
      refine ⟨_, rfl, ?_, fun _ _ h => h, fun _ h => h⟩
      exact VW.refl _
  · simp only [dLess, Bool.or_true, Bool.or_false, Bool.false_or, Bool.and_true, Bool.and_false, Bool.false_and, Bool.true_and, Bool.true_or, Bool.or_self, Bool.and_self, Bool.cond_true, Bool.cond_false, Bool.not_true, Bool.not_false, g0]
    refine pcalls_of_awp Go.Proofs.Tryz.func160 rfl (by decide) (Nat.le_of_ble_eq_true rfl) ?_
    intro B σ hB ho hob
    refine awp_region_k (fun _ => false) (by rw [hB]; rfl) fun K hK base hbase hfr => tr_run ?_
    simp only [go_sem, ↓reduceIte, za, zb, zc, zd, ze, zf, zg, zh, zi, zj, zk, zl, zm, zn, zo, g0]
    refine tr_nil (hK _ _ _ ?_)
    clear hK K hbase hfr base
    refine awp_region_k (fun _ => false) (by rw [hB]; rfl) fun K hK base hbase hfr => tr_run ?_
    simp only [go_sem, ↓reduceIte, za, zb, zc, zd, ze, zf, zg, zh, zi, zj, zk, zl, zm, zn, zo, g0]
    refine tr_nil (hK _ _ _ ?_)
    clear hK K hbase hfr base
    refine awp_ret ?_
    refine ⟨_, rfl, ?_, fun _ _ h => h, fun _ h => h⟩
    exact VW.refl _
theorem c99 (a : Int × Int) : PCalls Go.Proofs.Tryz.prog 99 [dot a] (.bool (dCheck a)) := by
  rcases g0 : decide (1 ≤ a.1) with _ | _
  · simp only [dCheck, Bool.or_true, Bool.or_false, Bool.false_or, Bool.and_true, Bool.and_false, Bool.false_and, Bool.true_and, Bool.true_or, Bool.or_self, Bool.and_self, Bool.cond_true, Bool.cond_false, Bool.not_true, Bool.not_false, g0]
    refine pcalls_of_awp Go.Proofs.Tryz.func99 rfl (by decide) (Nat.le_of_ble_eq_true rfl) ?_
    intro B σ hB ho hob
    refine awp_region_k (fun _ => false) (by rw [hB]; rfl) fun K hK base hbase hfr => tr_run ?_
    simp only [go_sem, ↓reduceIte, za, zb, zc, zd, ze, zf, zg, zh, zi, zj, zk, zl, zm, zn, zo, g0]
    refine tr_nil (hK _ _ _ ?_)
    clear hK K hbase hfr base
    refine awp_region_k (fun _ => false) (by rw [hB]; rfl) fun K hK base hbase hfr => tr_run ?_
    simp only [go_sem, ↓reduceIte, za, zb, zc, zd, ze, zf, zg, zh, zi, zj, zk, zl, zm, zn, zo, g0]
    refine tr_nil (hK _ _ _ ?_)
    clear hK K hbase hfr base
    refine awp_ret ?_
    refine ⟨_, rfl, ?_, fun _ _ h => h, fun _ h => h⟩
    exact VW.refl _
  · rcases g1 : decide (a.1 ≤ 1099511627776) with _ | _
    · simp only [dCheck, Bool.or_true, Bool.or_false, Bool.false_or, Bool.and_true, Bool.and_false, Bool.false_and, Bool.true_and, Bool.true_or, Bool.or_self, Bool.and_self, Bool.cond_true, Bool.cond_false, Bool.not_true, Bool.not_false, g0, g1]
      refine pcalls_of_awp Go.Proofs.Tryz.func99 rfl (by decide) (Nat.le_of_ble_eq_true rfl) ?_
      intro B σ hB ho hob
      refine awp_region_k (fun _ => false) (by rw [hB]; rfl) fun K hK base hbase hfr => tr_run ?_
      simp only [go_sem, ↓reduceIte, za, zb, zc, zd, ze, zf, zg, zh, zi, zj, zk, zl, zm, zn, zo, g0, g1]
      refine tr_nil (hK _ _ _ ?_)
      clear hK K hbase hfr base
      refine awp_region_k (fun _ => false) (by rw [hB]; rfl) fun K hK base hbase hfr => tr_run ?_
      simp only [go_sem, ↓reduceIte, za, zb, zc, zd, ze, zf, zg, zh, zi, zj, zk, zl, zm, zn, zo, g0, g1]
      refine tr_nil (hK _ _ _ ?_)
      clear hK K hbase hfr base
      refine awp_ret ?_
      refine ⟨_, rfl, ?_, fun _ _ h => h, fun _ h => h⟩
      exact VW.refl _
    · rcases g2 : decide (1 ≤ a.2) with _ | _
      · simp only [dCheck, Bool.or_true, Bool.or_false, Bool.false_or, Bool.and_true, Bool.and_false, Bool.false_and, Bool.true_and, Bool.true_or, Bool.or_self, Bool.and_self, Bool.cond_true, Bool.cond_false, Bool.not_true, Bool.not_false, g0, g1, g2]
        refine pcalls_of_awp Go.Proofs.Tryz.func99 rfl (by decide) (Nat.le_of_ble_eq_true rfl) ?_
        intro B σ hB ho hob
        refine awp_region_k (fun _ => false) (by rw [hB]; rfl) fun K hK base hbase hfr => tr_run ?_
        simp only [go_sem, ↓reduceIte, za, zb, zc, zd, ze, zf, zg, zh, zi, zj, zk, zl, zm, zn, zo, g0, g1, g2]
        refine tr_nil (hK _ _ _ ?_)
        clear hK K hbase hfr base
        refine awp_region_k (fun _ => false) (by rw [hB]; rfl) fun K hK base hbase hfr => tr_run ?_
        simp only [go_sem, ↓reduceIte, za, zb, zc, zd, ze, zf, zg, zh, zi, zj, zk, zl, zm, zn, zo, g0, g1, g2]
        refine tr_nil (hK _ _ _ ?_)
        clear hK K hbase hfr base
        refine awp_ret ?_
        refine ⟨_, rfl, ?_, fun _ _ h => h, fun _ h => h⟩
        exact VW.refl _
      · simp only [dCheck, Bool.or_true, Bool.or_false, Bool.false_or, Bool.and_true, Bool.and_false, Bool.false_and, Bool.true_and, Bool.true_or, Bool.or_self, Bool.and_self, Bool.cond_true, Bool.cond_false, Bool.not_true, Bool.not_false, g0, g1, g2]
        refine pcalls_of_awp Go.Proofs.Tryz.func99 rfl (by decide) (Nat.le_of_ble_eq_true rfl) ?_
        intro B σ hB ho hob
        refine awp_region_k (fun _ => false) (by rw [hB]; rfl) fun K hK base hbase hfr => tr_run ?_
        simp only [go_sem, ↓reduceIte, za, zb, zc, zd, ze, zf, zg, zh, zi, zj, zk, zl, zm, zn, zo, g0, g1, g2]
        refine tr_nil (hK _ _ _ ?_)
        clear hK K hbase hfr base
        refine awp_region_k (fun _ => false) (by rw [hB]; rfl) fun K hK base hbase hfr => tr_run ?_
        simp only [go_sem, ↓reduceIte, za, zb, zc, zd, ze, zf, zg, zh, zi, zj, zk, zl, zm, zn, zo, g0, g1, g2]
        refine tr_nil (hK _ _ _ ?_)
        clear hK K hbase hfr base
        refine awp_ret ?_
        refine ⟨_, rfl, ?_, fun _ _ h => h, fun _ h => h⟩
        exact VW.refl _
end Go.Am
