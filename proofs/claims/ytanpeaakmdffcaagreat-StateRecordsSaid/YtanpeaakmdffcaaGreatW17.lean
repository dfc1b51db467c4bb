/- What functions of this program compute, a part: see the main text. No conditions. -/
import Derived.Test.YtanpeaakmdffcaaGreatW16
set_option linter.all false
set_option maxRecDepth 100000
namespace Go.Am
open Go
open Nat renaming reduceEqDiff → za, reduceAdd → zb, reduceMul → zc, reducePow → zd, reduceLeDiff → ze, reduceSub → zf, reduceBEq → zg, reduceBNe → zh, reduceDiv → zi, reduceMod → zj
open Int renaming reduceLT → zk, reduceLE → zl, reduceEq → zm, reduceNe → zn, reduceToNat → zo
def rDotA (r : Rd) : Int × Rd := rInt 1099511627776 r
def rDotB (r : Rd) : Int × Rd := rInt 1099511627776 (rInt 1099511627776 r).2
def rDot (r : Rd) : (Int × Int) × Rd :=
  if dCheck ((rDotA r).1, (rDotB r).1) = false ∨ (rDotB r).2.torn = true then ((0, 0), ⟨(rDotB r).2.s, true⟩) else (((rDotA r).1, (rDotB r).1), (rDotB r).2)
theorem rDot_bad {r : Rd} (h : dCheck ((rDotA r).1, (rDotB r).1) = false ∨ (rDotB r).2.torn = true) : rDot r = ((0, 0), ⟨(rDotB r).2.s, true⟩) := if_pos h
theorem rDot_ok {r : Rd} (h1 : dCheck ((rDotA r).1, (rDotB r).1) = true) (h2 : (rDotB r).2.torn = false) : rDot r = (((rDotA r).1, (rDotB r).1), (rDotB r).2) :=
  if_neg (by rw [h1, h2]; simp)
theorem c106 (σ : Sh) (oid : Nat) (r : Rd) (hσ : σ.ob oid = some (.cells (rdV r))) : WCalls Go.Proofs.Tryz.prog 106 [.ptr oid 0] σ (dot (rDot r).1) (σ.setOb oid (.cells (rdV (rDot r).2))) := by
  refine wcalls_of_awp Go.Proofs.Tryz.func106 rfl (by decide) (Nat.le_of_ble_eq_true rfl) ?_
  intro B hB ho hob
  refine awp_region_k (fun _ => false) (by rw [hB]; rfl) fun K hK base hbase hfr => tr_run ?_
  simp (disch := omega) only [go_sem, ↓reduceIte, za, zb, zc, zd, ze, zf, zg, zh, zi, zj, zk, zl, zm, zn, zo, dec_t, dec_f, ltI, leI, leN, le63, le40, le0, wrap64_id, wrapu64_id, wrap8_id]
  refine tr_nil (hK _ _ _ ?_)
  clear hK K hbase hfr base
  refine awp_region_k (fun _ => false) (by rw [hB]; rfl) fun K hK base hbase hfr => tr_run ?_
  simp (disch := omega) only [go_sem, ↓reduceIte, za, zb, zc, zd, ze, zf, zg, zh, zi, zj, zk, zl, zm, zn, zo, dec_t, dec_f, ltI, leI, leN, le63, le40, le0, wrap64_id, wrapu64_id, wrap8_id]
  refine tr_wc (by rfl) (by simp only [go_sem, ↓reduceIte, za, zb, zc, zd, ze, zf, zg, zh, zi, zj, zk, zl, zm, zn, zo] <;> rfl) (c45 σ oid r _ (by decide) (by unfold I63; decide) hσ) ?_
  simp (disch := omega) only [go_sem, ↓reduceIte, za, zb, zc, zd, ze, zf, zg, zh, zi, zj, zk, zl, zm, zn, zo, dec_t, dec_f, ltI, leI, leN, le63, le40, le0, wrap64_id, wrapu64_id, wrap8_id]
  refine tr_nil (hK _ _ _ ?_)
  clear hK K hbase hfr base
  refine awp_region_k (fun _ => false) (by rw [hB]; rfl) fun K hK base hbase hfr => tr_run ?_
  simp (disch := omega) only [go_sem, ↓reduceIte, za, zb, zc, zd, ze, zf, zg, zh, zi, zj, zk, zl, zm, zn, zo, dec_t, dec_f, ltI, leI, leN, le63, le40, le0, wrap64_id, wrapu64_id, wrap8_id]
  refine tr_wc (by rfl) (by simp only [go_sem, ↓reduceIte, za, zb, zc, zd, ze, zf, zg, zh, zi, zj, zk, zl, zm, zn, zo] <;> rfl) (c45 _ oid (rInt 1099511627776 r).2 _ (by decide) (by unfold I63; decide) (setOb_same _ _ _)) ?_
  simp (disch := omega) only [go_sem, ↓reduceIte, za, zb, zc, zd, ze, zf, zg, zh, zi, zj, zk, zl, zm, zn, zo, dec_t, dec_f, ltI, leI, leN, le63, le40, le0, wrap64_id, wrapu64_id, wrap8_id]
  refine tr_nil (hK _ _ _ ?_)
  clear hK K hbase hfr base
  refine awp_region_k (fun _ => false) (by rw [hB]; rfl) fun K hK base hbase hfr => tr_run ?_
  simp (disch := omega) only [go_sem, ↓reduceIte, za, zb, zc, zd, ze, zf, zg, zh, zi, zj, zk, zl, zm, zn, zo, dec_t, dec_f, ltI, leI, leN, le63, le40, le0, wrap64_id, wrapu64_id, wrap8_id]
  refine tr_pc (by rfl) (by simp only [go_sem, ↓reduceIte, za, zb, zc, zd, ze, zf, zg, zh, zi, zj, zk, zl, zm, zn, zo] <;> rfl) (c99 ((rDotA r).1, (rDotB r).1)) ?_
  simp (disch := omega) only [go_sem, ↓reduceIte, za, zb, zc, zd, ze, zf, zg, zh, zi, zj, zk, zl, zm, zn, zo, dec_t, dec_f, ltI, leI, leN, le63, le40, le0, wrap64_id, wrapu64_id, wrap8_id]
  refine tr_nil (hK _ _ _ ?_)
  clear hK K hbase hfr base
  refine awp_seq ?_
  rcases q1 : dCheck ((rDotA r).1, (rDotB r).1) with _ | _
  · skip
    refine awp_region_k (fun _ => false) (by rw [hB]; rfl) fun K hK base hbase hfr => tr_run ?_
    simp (disch := omega) only [go_sem, ↓reduceIte, za, zb, zc, zd, ze, zf, zg, zh, zi, zj, zk, zl, zm, zn, zo, q1, dec_t, dec_f, ltI, leI, leN, le63, le40, le0, wrap64_id, wrapu64_id, wrap8_id]
    refine tr_nil (hK _ _ _ ?_)
    clear hK K hbase hfr base
    try simp only [yb, yc, yd, ye, yf, yg, yh, yi, yj, yk, yl, ym, yn, yo] at q1
    refine awp_cond (rfl) (fun h2 => ?_) (fun h2 => by cases h2)
    refine awp_region_k (fun _ => false) (by rw [hB]; rfl) fun K hK base hbase hfr => tr_run ?_
    simp (disch := omega) only [go_sem, ↓reduceIte, za, zb, zc, zd, ze, zf, zg, zh, zi, zj, zk, zl, zm, zn, zo, dec_t, dec_f, ltI, leI, leN, le63, le40, le0, wrap64_id, wrapu64_id, wrap8_id]
    refine tr_nil (hK _ _ _ ?_)
    clear hK K hbase hfr base
    refine awp_region_k (fun _ => false) (by rw [hB]; rfl) fun K hK base hbase hfr => tr_run ?_
    simp (disch := omega) only [go_sem, ↓reduceIte, za, zb, zc, zd, ze, zf, zg, zh, zi, zj, zk, zl, zm, zn, zo, dec_t, dec_f, ltI, leI, leN, le63, le40, le0, wrap64_id, wrapu64_id, wrap8_id]
    refine tr_nil (hK _ _ _ ?_)
    clear hK K hbase hfr base
    refine awp_ret ?_
    refine then_r ?_
    rw [rDot_bad (.inl q1)]
    exact ⟨_, rfl, VW.refl _, fun _ _ h => h, fun _ h => h⟩
  · skip
    refine awp_region_k (fun _ => false) (by rw [hB]; rfl) fun K hK base hbase hfr => tr_run ?_
    simp (disch := omega) only [go_sem, ↓reduceIte, za, zb, zc, zd, ze, zf, zg, zh, zi, zj, zk, zl, zm, zn, zo, q1, dec_t, dec_f, ltI, leI, leN, le63, le40, le0, wrap64_id, wrapu64_id, wrap8_id]
    refine tr_nil (hK _ _ _ ?_)
    clear hK K hbase hfr base
    try simp only [yb, yc, yd, ye, yf, yg, yh, yi, yj, yk, yl, ym, yn, yo] at q1
    refine awp_cond (rfl) (fun h3 => ?_) (fun h3 => ?_)
    · try simp only [yb, yc, yd, ye, yf, yg, yh, yi, yj, yk, yl, ym, yn, yo] at h3
      refine awp_region_k (fun _ => false) (by rw [hB]; rfl) fun K hK base hbase hfr => tr_run ?_
      simp (disch := omega) only [go_sem, ↓reduceIte, za, zb, zc, zd, ze, zf, zg, zh, zi, zj, zk, zl, zm, zn, zo, dec_t, dec_f, ltI, leI, leN, le63, le40, le0, wrap64_id, wrapu64_id, wrap8_id]
      refine tr_nil (hK _ _ _ ?_)
      clear hK K hbase hfr base
      refine awp_region_k (fun _ => false) (by rw [hB]; rfl) fun K hK base hbase hfr => tr_run ?_
      simp (disch := omega) only [go_sem, ↓reduceIte, za, zb, zc, zd, ze, zf, zg, zh, zi, zj, zk, zl, zm, zn, zo, dec_t, dec_f, ltI, leI, leN, le63, le40, le0, wrap64_id, wrapu64_id, wrap8_id]
      refine tr_nil (hK _ _ _ ?_)
      clear hK K hbase hfr base
      refine awp_ret ?_
      refine then_r ?_
      rw [rDot_bad (.inr (by assumption))]
      exact ⟨_, rfl, VW.refl _, fun _ _ h => h, fun _ h => h⟩
    · try simp only [yb, yc, yd, ye, yf, yg, yh, yi, yj, yk, yl, ym, yn, yo] at h3
      refine awp_skip ?_
      refine then_n ?_
      refine awp_region_k (fun _ => false) (by rw [hB]; rfl) fun K hK base hbase hfr => tr_run ?_
      simp (disch := omega) only [go_sem, ↓reduceIte, za, zb, zc, zd, ze, zf, zg, zh, zi, zj, zk, zl, zm, zn, zo, dec_t, dec_f, ltI, leI, leN, le63, le40, le0, wrap64_id, wrapu64_id, wrap8_id]
      refine tr_nil (hK _ _ _ ?_)
      clear hK K hbase hfr base
      refine awp_ret ?_
      rw [rDot_ok q1 (by assumption)]
      exact ⟨_, rfl, VW.refl _, fun _ _ h => h, fun _ h => h⟩
end Go.Am
namespace Go.Am
open Go
open Nat renaming reduceEqDiff → za, reduceAdd → zb, reduceMul → zc, reducePow → zd, reduceLeDiff → ze, reduceSub → zf, reduceBEq → zg, reduceBNe → zh, reduceDiv → zi, reduceMod → zj
open Int renaming reduceLT → zk, reduceLE → zl, reduceEq → zm, reduceNe → zn, reduceToNat → zo
def rRowGo : Nat → List (Int × Int) → Rd → List (Int × Int) × Rd
  | 0, out, r => (out, r)
  | k + 1, out, r => if r.torn = true then (out, r) else rRowGo k (out ++ [(rDot r).1]) (rDot r).2
def rRow0 (most : Int) (r : Rd) : List (Int × Int) × Rd := rRowGo (rInt most r).1.toNat [] (rInt most r).2
def rRow (most : Int) (r : Rd) : List (Int × Int) × Rd :=
  if dRises (rRow0 most r).1 = false ∨ (rRow0 most r).2.torn = true then ([], ⟨(rRow0 most r).2.s, true⟩) else ((rRow0 most r).1, (rRow0 most r).2)
theorem rRow_bad {most : Int} {r : Rd} (h : dRises (rRow0 most r).1 = false ∨ (rRow0 most r).2.torn = true) : rRow most r = ([], ⟨(rRow0 most r).2.s, true⟩) := if_pos h
theorem rRow_ok {most : Int} {r : Rd} (h1 : dRises (rRow0 most r).1 = true) (h2 : (rRow0 most r).2.torn = false) : rRow most r = ((rRow0 most r).1, (rRow0 most r).2) :=
  if_neg (by rw [h1, h2]; simp)
theorem rRowGo_torn (k : Nat) (out : List (Int × Int)) (r : Rd) (h : r.torn = true) : rRowGo k out r = (out, r) := by
  cases k with
  | zero => rfl
  | succ k => rw [rRowGo, if_pos h]
theorem c158 (σ : Sh) (oid : Nat) (r : Rd) (most : Int) (h0 : 0 ≤ most) (hmost : most ≤ 1099511627) (hσ : σ.ob oid = some (.cells (rdV r))) : WCalls Go.Proofs.Tryz.prog 158 [.ptr oid 0, .int .i64 most] σ (.list ((rRow most r).1.map dot) .no) (σ.setOb oid (.cells (rdV (rRow most r).2))) := by
  obtain ⟨hge, hle⟩ := rInt_le most r h0
  refine wcalls_of_awp Go.Proofs.Tryz.func158 rfl (by decide) (Nat.le_of_ble_eq_true rfl) ?_
  intro B hB ho hob
  refine awp_region_k (fun _ => false) (by rw [hB]; rfl) fun K hK base hbase hfr => tr_run ?_
  simp (disch := omega) only [go_sem, ↓reduceIte, za, zb, zc, zd, ze, zf, zg, zh, zi, zj, zk, zl, zm, zn, zo, dec_t, dec_f, ltI, leI, leN, le63, le40, le0, wrap64_id, wrapu64_id, wrap8_id]
  refine tr_nil (hK _ _ _ ?_)
  clear hK K hbase hfr base
  refine awp_region_k (fun _ => false) (by rw [hB]; rfl) fun K hK base hbase hfr => tr_run ?_
  simp (disch := omega) only [go_sem, ↓reduceIte, za, zb, zc, zd, ze, zf, zg, zh, zi, zj, zk, zl, zm, zn, zo, dec_t, dec_f, ltI, leI, leN, le63, le40, le0, wrap64_id, wrapu64_id, wrap8_id]
  refine tr_wc (by rfl) (by simp only [go_sem, ↓reduceIte, za, zb, zc, zd, ze, zf, zg, zh, zi, zj, zk, zl, zm, zn, zo] <;> rfl) (c45 σ oid r most h0 (by unfold I63; omega) hσ) ?_
  simp (disch := omega) only [go_sem, ↓reduceIte, za, zb, zc, zd, ze, zf, zg, zh, zi, zj, zk, zl, zm, zn, zo, dec_t, dec_f, ltI, leI, leN, le63, le40, le0, wrap64_id, wrapu64_id, wrap8_id]
  refine tr_nil (hK _ _ _ ?_)
  clear hK K hbase hfr base
  refine awp_region_k (fun _ => false) (by rw [hB]; rfl) fun K hK base hbase hfr => tr_run ?_
  simp (disch := omega) only [go_sem, ↓reduceIte, za, zb, zc, zd, ze, zf, zg, zh, zi, zj, zk, zl, zm, zn, zo, dec_t, dec_f, ltI, leI, leN, le63, le40, le0, wrap64_id, wrapu64_id, wrap8_id]
  refine tr_nil (hK _ _ _ ?_)
  clear hK K hbase hfr base
  refine awp_seq ?_
  refine awp_region_k (fun _ => false) (by rw [hB]; rfl) fun K hK base hbase hfr => tr_run ?_
  simp (disch := omega) only [go_sem, ↓reduceIte, za, zb, zc, zd, ze, zf, zg, zh, zi, zj, zk, zl, zm, zn, zo, dec_t, dec_f, ltI, leI, leN, le63, le40, le0, wrap64_id, wrapu64_id, wrap8_id]
  refine tr_nil (hK _ _ _ ?_)
  clear hK K hbase hfr base
  refine awp_block ?_
  refine awp_tok 6 rfl fun t0 ht0 => ?_
  refine awp_loop_w (α := Nat × List (Int × Int) × Nat × Rd) (fun x => rRowGo ((rInt most r).1.toNat - x.1) x.2.1 x.2.2.2 = rRow0 most r ∧ x.2.1.length ≤ x.1 ∧ x.1 ≤ (rInt most r).1.toNat ∧ B.g.nt ≤ x.2.2.1) (fun x => [(0, .ptr oid 0), (5, .int .i64 (rInt most r).1), (6, .list (x.2.1.map dot) (.tok x.2.2.1)), (7, .int .i64 x.1), (4, .list [] .full)]) (fun x => []) (fun x => ({ σ with live := x.2.2.1 :: σ.live } : Sh).setOb oid (.cells (rdV x.2.2.2))) (fun x => (rInt most r).1.toNat - x.1) (0, [], t0, (rInt most r).2) ?_ ?_ (Boxes.subW_nil _) (Sh.sub_refl _) ?_
  · exact ⟨rfl, Nat.le_refl _, Nat.zero_le _, ht0⟩
  · exact Env.subW_one rfl <| Env.subW_one rfl <| Env.subW_one rfl <| Env.subW_one rfl <| Env.subW_one rfl <| Env.subW_nil _
  rintro ⟨i, out, t, rr⟩ ⟨hG, ho1, ho2, ht⟩
  try dsimp only at hG ho1 ho2 ht
  refine awp_seq ?_
  rcases q1 : decide ((i : Int) < (rInt most r).1) with _ | _
  · skip
    refine awp_region_k (fun _ => false) (by rw [hB]; rfl) fun K hK base hbase hfr => tr_run ?_
    simp (disch := omega) only [go_sem, ↓reduceIte, za, zb, zc, zd, ze, zf, zg, zh, zi, zj, zk, zl, zm, zn, zo, q1, dec_t, dec_f, ltI, leI, leN, le63, le40, le0, wrap64_id, wrapu64_id, wrap8_id]
    refine tr_nil (hK _ _ _ ?_)
    clear hK K hbase hfr base
    try simp only [yb, yc, yd, ye, yf, yg, yh, yi, yj, yk, yl, ym, yn, yo] at q1
    refine awp_cond (rfl) (fun h2 => by cases h2) (fun h2 => ?_)
    refine awp_exit ?_
    refine then_x ?_
    refine then_x ?_
    refine block_x ?_
    refine then_n ?_
    have hres : rRow0 most r = (out, rr) := by rw [← hG, show (rInt most r).1.toNat - i = 0 by omega]; rfl
    refine awp_region_k (fun _ => false) (by rw [hB]; rfl) fun K hK base hbase hfr => tr_run ?_
    simp (disch := omega) only [go_sem, ↓reduceIte, za, zb, zc, zd, ze, zf, zg, zh, zi, zj, zk, zl, zm, zn, zo, dec_t, dec_f, ltI, leI, leN, le63, le40, le0, wrap64_id, wrapu64_id, wrap8_id]
    refine tr_pc (by rfl) (by simp only [go_sem, ↓reduceIte, za, zb, zc, zd, ze, zf, zg, zh, zi, zj, zk, zl, zm, zn, zo] <;> rfl) (c197 out (.tok t)) ?_
    simp (disch := omega) only [go_sem, ↓reduceIte, za, zb, zc, zd, ze, zf, zg, zh, zi, zj, zk, zl, zm, zn, zo, dec_t, dec_f, ltI, leI, leN, le63, le40, le0, wrap64_id, wrapu64_id, wrap8_id]
    refine tr_nil (hK _ _ _ ?_)
    clear hK K hbase hfr base
    refine awp_seq ?_
    refine awp_region_k (fun _ => false) (by rw [hB]; rfl) fun K hK base hbase hfr => tr_run ?_
    simp (disch := omega) only [go_sem, ↓reduceIte, za, zb, zc, zd, ze, zf, zg, zh, zi, zj, zk, zl, zm, zn, zo, dec_t, dec_f, ltI, leI, leN, le63, le40, le0, wrap64_id, wrapu64_id, wrap8_id]
    refine tr_nil (hK _ _ _ ?_)
    clear hK K hbase hfr base
    refine awp_cond (rfl) (fun h3 => ?_) (fun h3 => ?_)
    · try simp only [yb, yc, yd, ye, yf, yg, yh, yi, yj, yk, yl, ym, yn, yo] at h3
      refine awp_region_e (fun _ => false) (by rw [hB]; rfl) fun K hK base hbase hfr => tr_run ?_
      simp (disch := omega) only [go_sem, ↓reduceIte, za, zb, zc, zd, ze, zf, zg, zh, zi, zj, zk, zl, zm, zn, zo, dec_t, dec_f, ltI, leI, leN, le63, le40, le0, wrap64_id, wrapu64_id, wrap8_id]
      refine tr_nil (hK _ _ _ ?_)
      clear hK K hbase hfr base
      refine then_n ?_
      refine awp_seq ?_
      refine awp_region_k (fun _ => false) (by rw [hB]; rfl) fun K hK base hbase hfr => tr_run ?_
      simp (disch := omega) only [go_sem, ↓reduceIte, za, zb, zc, zd, ze, zf, zg, zh, zi, zj, zk, zl, zm, zn, zo, dec_t, dec_f, ltI, leI, leN, le63, le40, le0, wrap64_id, wrapu64_id, wrap8_id]
      refine tr_nil (hK _ _ _ ?_)
      clear hK K hbase hfr base
      refine awp_cond (rfl) (fun h4 => ?_) (fun h4 => by cases h4)
      refine awp_region_k (fun _ => false) (by rw [hB]; rfl) fun K hK base hbase hfr => tr_run ?_
      simp (disch := omega) only [go_sem, ↓reduceIte, za, zb, zc, zd, ze, zf, zg, zh, zi, zj, zk, zl, zm, zn, zo, dec_t, dec_f, ltI, leI, leN, le63, le40, le0, wrap64_id, wrapu64_id, wrap8_id]
      refine tr_nil (hK _ _ _ ?_)
      clear hK K hbase hfr base
      refine awp_ret ?_
      refine then_r ?_
      rw [rRow_bad (.inl (by rw [hres]; assumption)), hres]
      exact ⟨_, rfl, (.one (.one (.no _ _))), fun _ _ h => h, fun _ h => List.mem_cons_of_mem _ h⟩
    · try simp only [yb, yc, yd, ye, yf, yg, yh, yi, yj, yk, yl, ym, yn, yo] at h3
      refine awp_skip ?_
      refine then_n ?_
      refine awp_seq ?_
      refine awp_region_k (fun _ => false) (by rw [hB]; rfl) fun K hK base hbase hfr => tr_run ?_
      simp (disch := omega) only [go_sem, ↓reduceIte, za, zb, zc, zd, ze, zf, zg, zh, zi, zj, zk, zl, zm, zn, zo, dec_t, dec_f, ltI, leI, leN, le63, le40, le0, wrap64_id, wrapu64_id, wrap8_id]
      refine tr_nil (hK _ _ _ ?_)
      clear hK K hbase hfr base
      refine awp_cond (rfl) (fun h5 => ?_) (fun h5 => ?_)
      · try simp only [yb, yc, yd, ye, yf, yg, yh, yi, yj, yk, yl, ym, yn, yo] at h5
        refine awp_region_k (fun _ => false) (by rw [hB]; rfl) fun K hK base hbase hfr => tr_run ?_
        simp (disch := omega) only [go_sem, ↓reduceIte, za, zb, zc, zd, ze, zf, zg, zh, zi, zj, zk, zl, zm, zn, zo, dec_t, dec_f, ltI, leI, leN, le63, le40, le0, wrap64_id, wrapu64_id, wrap8_id]
        refine tr_nil (hK _ _ _ ?_)
        clear hK K hbase hfr base
        refine awp_ret ?_
        refine then_r ?_
        have e : rr.torn = true := by assumption
        rw [rRow_bad (.inr (by rw [hres]; exact e)), hres, show (⟨(out, rr).2.s, true⟩ : Rd) = rr by rw [← e]]
        exact ⟨_, rfl, (.one (.one (.no _ _))), fun _ _ h => h, fun _ h => List.mem_cons_of_mem _ h⟩
      · try simp only [yb, yc, yd, ye, yf, yg, yh, yi, yj, yk, yl, ym, yn, yo] at h5
        refine awp_skip ?_
        refine then_n ?_
        refine awp_region_k (fun _ => false) (by rw [hB]; rfl) fun K hK base hbase hfr => tr_run ?_
        simp (disch := omega) only [go_sem, ↓reduceIte, za, zb, zc, zd, ze, zf, zg, zh, zi, zj, zk, zl, zm, zn, zo, dec_t, dec_f, ltI, leI, leN, le63, le40, le0, wrap64_id, wrapu64_id, wrap8_id]
        refine tr_nil (hK _ _ _ ?_)
        clear hK K hbase hfr base
        refine awp_ret ?_
        have e : rr.torn = false := by assumption
        rw [rRow_ok (by rw [hres]; assumption) (by rw [hres]; exact e), hres]
        exact ⟨_, rfl, (.one (.one (.no _ _))), fun _ _ h => h, fun _ h => List.mem_cons_of_mem _ h⟩
  · skip
    refine awp_region_k (fun _ => false) (by rw [hB]; rfl) fun K hK base hbase hfr => tr_run ?_
    simp (disch := omega) only [go_sem, ↓reduceIte, za, zb, zc, zd, ze, zf, zg, zh, zi, zj, zk, zl, zm, zn, zo, q1, dec_t, dec_f, ltI, leI, leN, le63, le40, le0, wrap64_id, wrapu64_id, wrap8_id]
    refine tr_nil (hK _ _ _ ?_)
    clear hK K hbase hfr base
    try simp only [yb, yc, yd, ye, yf, yg, yh, yi, yj, yk, yl, ym, yn, yo] at q1
    refine awp_cond (rfl) (fun h6 => ?_) (fun h6 => ?_)
    · try simp only [yb, yc, yd, ye, yf, yg, yh, yi, yj, yk, yl, ym, yn, yo] at h6
      have htn : rr.torn = false := by cases hh : rr.torn <;> simp_all
      refine awp_skip ?_
      refine then_n ?_
      refine awp_seq ?_
      refine awp_block ?_
      refine awp_region_e (fun _ => false) (by rw [hB]; rfl) fun K hK base hbase hfr => tr_run ?_
      simp (disch := omega) only [go_sem, ↓reduceIte, za, zb, zc, zd, ze, zf, zg, zh, zi, zj, zk, zl, zm, zn, zo, ho, dec_t, dec_f, ltI, leI, leN, le63, le40, le0, wrap64_id, wrapu64_id, wrap8_id]
      refine tr_wc (by rfl) (by simp only [go_sem, ↓reduceIte, za, zb, zc, zd, ze, zf, zg, zh, zi, zj, zk, zl, zm, zn, zo, ho] <;> rfl) (c106 _ oid rr (setOb_same _ _ _)) ?_
      simp (disch := omega) only [go_sem, ↓reduceIte, za, zb, zc, zd, ze, zf, zg, zh, zi, zj, zk, zl, zm, zn, zo, ho, dec_t, dec_f, ltI, leI, leN, le63, le40, le0, wrap64_id, wrapu64_id, wrap8_id]
      refine tr_nil (hK _ _ _ ?_)
      clear hK K hfr
      refine block_n ?_
      refine then_n ?_
      refine awp_region_e (fun _ => false) (by rw [hB]; rfl) fun K hK base hbase hfr => tr_run ?_
      simp (disch := omega) only [go_sem, ↓reduceIte, za, zb, zc, zd, ze, zf, zg, zh, zi, zj, zk, zl, zm, zn, zo, dec_t, dec_f, ltI, leI, leN, le63, le40, le0, wrap64_id, wrapu64_id, wrap8_id]
      refine tr_nil (hK _ _ _ ?_)
      clear hK K hbase hfr base
      refine then_n ⟨(i + 1, out ++ [(rDot rr).1], base + 4, (rDot rr).2), ?_, ?_, ?_, ?_, ⟨fun _ _ h => h, fun _ h => h⟩⟩
      · refine ⟨?_, ?_, ?_, Nat.le_trans hbase (Nat.le_add_right _ _)⟩
        · show rRowGo ((rInt most r).1.toNat - (i + 1)) (out ++ [(rDot rr).1]) (rDot rr).2 = _
          rw [← hG, show (rInt most r).1.toNat - i = ((rInt most r).1.toNat - (i + 1)) + 1 by omega, rRowGo, if_neg (by rw [htn]; decide)]
        · show (out ++ [(rDot rr).1]).length ≤ i + 1; simp only [List.length_append, List.length_cons, List.length_nil]; omega
        · show i + 1 ≤ _; omega
      · show (rInt most r).1.toNat - (i + 1) < (rInt most r).1.toNat - i; omega
      · exact Env.subW_one rfl <| Env.subW_one rfl <| Env.subW_one (by rw [map_snoc]; rfl) <| Env.subW_one rfl <| Env.subW_one rfl <| Env.subW_nil _
      · exact Boxes.subW_nil _
    · try simp only [yb, yc, yd, ye, yf, yg, yh, yi, yj, yk, yl, ym, yn, yo] at h6
      have htn : rr.torn = true := by cases hh : rr.torn <;> simp_all
      refine awp_exit ?_
      refine then_x ?_
      refine then_x ?_
      refine block_x ?_
      refine then_n ?_
      have hres : rRow0 most r = (out, rr) := by rw [← hG, rRowGo_torn _ _ _ htn]
      refine awp_region_k (fun _ => false) (by rw [hB]; rfl) fun K hK base hbase hfr => tr_run ?_
      simp (disch := omega) only [go_sem, ↓reduceIte, za, zb, zc, zd, ze, zf, zg, zh, zi, zj, zk, zl, zm, zn, zo, dec_t, dec_f, ltI, leI, leN, le63, le40, le0, wrap64_id, wrapu64_id, wrap8_id]
      refine tr_pc (by rfl) (by simp only [go_sem, ↓reduceIte, za, zb, zc, zd, ze, zf, zg, zh, zi, zj, zk, zl, zm, zn, zo] <;> rfl) (c197 out (.tok t)) ?_
      simp (disch := omega) only [go_sem, ↓reduceIte, za, zb, zc, zd, ze, zf, zg, zh, zi, zj, zk, zl, zm, zn, zo, dec_t, dec_f, ltI, leI, leN, le63, le40, le0, wrap64_id, wrapu64_id, wrap8_id]
      refine tr_nil (hK _ _ _ ?_)
      clear hK K hbase hfr base
      refine awp_seq ?_
      refine awp_region_k (fun _ => false) (by rw [hB]; rfl) fun K hK base hbase hfr => tr_run ?_
      simp (disch := omega) only [go_sem, ↓reduceIte, za, zb, zc, zd, ze, zf, zg, zh, zi, zj, zk, zl, zm, zn, zo, dec_t, dec_f, ltI, leI, leN, le63, le40, le0, wrap64_id, wrapu64_id, wrap8_id]
      refine tr_nil (hK _ _ _ ?_)
      clear hK K hbase hfr base
      refine awp_cond (rfl) (fun h7 => ?_) (fun h7 => ?_)
      · try simp only [yb, yc, yd, ye, yf, yg, yh, yi, yj, yk, yl, ym, yn, yo] at h7
        refine awp_region_e (fun _ => false) (by rw [hB]; rfl) fun K hK base hbase hfr => tr_run ?_
        simp (disch := omega) only [go_sem, ↓reduceIte, za, zb, zc, zd, ze, zf, zg, zh, zi, zj, zk, zl, zm, zn, zo, dec_t, dec_f, ltI, leI, leN, le63, le40, le0, wrap64_id, wrapu64_id, wrap8_id]
        refine tr_nil (hK _ _ _ ?_)
        clear hK K hbase hfr base
        refine then_n ?_
        refine awp_seq ?_
        refine awp_region_k (fun _ => false) (by rw [hB]; rfl) fun K hK base hbase hfr => tr_run ?_
        simp (disch := omega) only [go_sem, ↓reduceIte, za, zb, zc, zd, ze, zf, zg, zh, zi, zj, zk, zl, zm, zn, zo, dec_t, dec_f, ltI, leI, leN, le63, le40, le0, wrap64_id, wrapu64_id, wrap8_id]
        refine tr_nil (hK _ _ _ ?_)
        clear hK K hbase hfr base
        refine awp_cond (rfl) (fun h8 => ?_) (fun h8 => by cases h8)
        refine awp_region_k (fun _ => false) (by rw [hB]; rfl) fun K hK base hbase hfr => tr_run ?_
        simp (disch := omega) only [go_sem, ↓reduceIte, za, zb, zc, zd, ze, zf, zg, zh, zi, zj, zk, zl, zm, zn, zo, dec_t, dec_f, ltI, leI, leN, le63, le40, le0, wrap64_id, wrapu64_id, wrap8_id]
        refine tr_nil (hK _ _ _ ?_)
        clear hK K hbase hfr base
        refine awp_ret ?_
        refine then_r ?_
        rw [rRow_bad (.inl (by rw [hres]; assumption)), hres]
        exact ⟨_, rfl, (.one (.one (.no _ _))), fun _ _ h => h, fun _ h => List.mem_cons_of_mem _ h⟩
      · try simp only [yb, yc, yd, ye, yf, yg, yh, yi, yj, yk, yl, ym, yn, yo] at h7
        refine awp_skip ?_
        refine then_n ?_
        refine awp_seq ?_
        refine awp_region_k (fun _ => false) (by rw [hB]; rfl) fun K hK base hbase hfr => tr_run ?_
        simp (disch := omega) only [go_sem, ↓reduceIte, za, zb, zc, zd, ze, zf, zg, zh, zi, zj, zk, zl, zm, zn, zo, dec_t, dec_f, ltI, leI, leN, le63, le40, le0, wrap64_id, wrapu64_id, wrap8_id]
        refine tr_nil (hK _ _ _ ?_)
        clear hK K hbase hfr base
        refine awp_cond (rfl) (fun h9 => ?_) (fun h9 => ?_)
        · try simp only [yb, yc, yd, ye, yf, yg, yh, yi, yj, yk, yl, ym, yn, yo] at h9
          refine awp_region_k (fun _ => false) (by rw [hB]; rfl) fun K hK base hbase hfr => tr_run ?_
          simp (disch := omega) only [go_sem, ↓reduceIte, za, zb, zc, zd, ze, zf, zg, zh, zi, zj, zk, zl, zm, zn, zo, dec_t, dec_f, ltI, leI, leN, le63, le40, le0, wrap64_id, wrapu64_id, wrap8_id]
          refine tr_nil (hK _ _ _ ?_)
          clear hK K hbase hfr base
          refine awp_ret ?_
          refine then_r ?_
          have e : rr.torn = true := by assumption
          rw [rRow_bad (.inr (by rw [hres]; exact e)), hres, show (⟨(out, rr).2.s, true⟩ : Rd) = rr by rw [← e]]
          exact ⟨_, rfl, (.one (.one (.no _ _))), fun _ _ h => h, fun _ h => List.mem_cons_of_mem _ h⟩
        · try simp only [yb, yc, yd, ye, yf, yg, yh, yi, yj, yk, yl, ym, yn, yo] at h9
          refine awp_skip ?_
          refine then_n ?_
          refine awp_region_k (fun _ => false) (by rw [hB]; rfl) fun K hK base hbase hfr => tr_run ?_
          simp (disch := omega) only [go_sem, ↓reduceIte, za, zb, zc, zd, ze, zf, zg, zh, zi, zj, zk, zl, zm, zn, zo, dec_t, dec_f, ltI, leI, leN, le63, le40, le0, wrap64_id, wrapu64_id, wrap8_id]
          refine tr_nil (hK _ _ _ ?_)
          clear hK K hbase hfr base
          refine awp_ret ?_
          have e : rr.torn = false := by assumption
          rw [rRow_ok (by rw [hres]; assumption) (by rw [hres]; exact e), hres]
          exact ⟨_, rfl, (.one (.one (.no _ _))), fun _ _ h => h, fun _ h => List.mem_cons_of_mem _ h⟩
end Go.Am
namespace Go.Am
open Go
open Nat renaming reduceEqDiff → za, reduceAdd → zb, reduceMul → zc, reducePow → zd, reduceLeDiff → ze, reduceSub → zf, reduceBEq → zg, reduceBNe → zh, reduceDiv → zi, reduceMod → zj
open Int renaming reduceLT → zk, reduceLE → zl, reduceEq → zm, reduceNe → zn, reduceToNat → zo
theorem rDot_in (r : Rd) : 0 ≤ (rDot r).1.2 ∧ (rDot r).1.2 ≤ 4611686018427387904 := by
  unfold rDot
  split
  · exact ⟨Int.le_refl 0, (by decide : (0 : Int) ≤ 4611686018427387904)⟩
  · rename_i h
    have : dCheck ((rDotA r).1, (rDotB r).1) = true := by
      cases hh : dCheck ((rDotA r).1, (rDotB r).1)
      · exact absurd (.inl hh) h
      · rfl
    exact dCheck_ok this
theorem rRowGo_in : ∀ (k : Nat) (out : List (Int × Int)) (r : Rd), (∀ d ∈ out, 0 ≤ d.2 ∧ d.2 ≤ 4611686018427387904) → ∀ d ∈ (rRowGo k out r).1, 0 ≤ d.2 ∧ d.2 ≤ 4611686018427387904
  | 0, out, r, h => h
  | k + 1, out, r, h => by
    unfold rRowGo
    split
    · exact h
    · refine rRowGo_in k _ _ fun d hd => ?_
      rcases List.mem_append.1 hd with h1 | h1
      · exact h d h1
      · rw [List.mem_singleton.1 h1]; exact rDot_in r
theorem rRow_in (most : Int) (r : Rd) : ∀ d ∈ (rRow most r).1, 0 ≤ d.2 ∧ d.2 ≤ 4611686018427387904 := by
  unfold rRow
  split
  · intro d hd; cases hd
  · exact rRowGo_in _ [] _ fun d hd => by cases hd
theorem rRowGo_len : ∀ (k : Nat) (out : List (Int × Int)) (r : Rd), (rRowGo k out r).1.length ≤ out.length + k
  | 0, out, r => Nat.le_refl _
  | k + 1, out, r => by
    unfold rRowGo
    split
    · exact Nat.le_add_right _ _
    · have := rRowGo_len k (out ++ [(rDot r).1]) (rDot r).2
      simp only [List.length_append, List.length_cons, List.length_nil] at this
      omega
theorem rRow_len (most : Int) (r : Rd) (h : 0 ≤ most) : (rRow most r).1.length ≤ most.toNat := by
  unfold rRow
  split
  · exact Nat.zero_le _
  · have := rRowGo_len (rInt most r).1.toNat [] (rInt most r).2
    have h2 := rInt_le most r h
    simp only [List.length_nil] at this
    show (rRow0 most r).1.length ≤ _
    unfold rRow0
    omega
def rCtxA (r : Rd) : Rd := (rRow 1000 r).2
def rCtxB (r : Rd) : Rd := (rRow 1000 (rCtxA r)).2
def rCtxV (r : Rd) : Ctx := ⟨(rRow 1000 r).1, (rRow 1000 (rCtxA r)).1⟩
def rCtx (r : Rd) : Ctx × Rd := if (rCtxB r).torn = true ∨ cCheck (rCtxV r) = false then (⟨[], []⟩, ⟨(rCtxB r).s, true⟩) else (rCtxV r, rCtxB r)
theorem rCtx_bad {r : Rd} (h : (rCtxB r).torn = true ∨ cCheck (rCtxV r) = false) : rCtx r = (⟨[], []⟩, ⟨(rCtxB r).s, true⟩) := if_pos h
theorem rCtx_ok {r : Rd} (h1 : (rCtxB r).torn = false) (h2 : cCheck (rCtxV r) = true) : rCtx r = (rCtxV r, rCtxB r) := if_neg (by rw [h1, h2]; simp)
theorem c105 (σ : Sh) (oid : Nat) (r : Rd) (hσ : σ.ob oid = some (.cells (rdV r))) : WCalls Go.Proofs.Tryz.prog 105 [.ptr oid 0] σ (ctxV (rCtx r).1 .no .no) (σ.setOb oid (.cells (rdV (rCtx r).2))) := by
  refine wcalls_of_awp Go.Proofs.Tryz.func105 rfl (by decide) (Nat.le_of_ble_eq_true rfl) ?_
  intro B hB ho hob
  refine awp_region_k (fun _ => false) (by rw [hB]; rfl) fun K hK base hbase hfr => tr_run ?_
  simp (disch := omega) only [go_sem, ↓reduceIte, za, zb, zc, zd, ze, zf, zg, zh, zi, zj, zk, zl, zm, zn, zo, dec_t, dec_f, ltI, leI, leN, le63, le40, le0, wrap64_id, wrapu64_id, wrap8_id]
  refine tr_nil (hK _ _ _ ?_)
  clear hK K hbase hfr base
  refine awp_region_k (fun _ => false) (by rw [hB]; rfl) fun K hK base hbase hfr => tr_run ?_
  simp (disch := omega) only [go_sem, ↓reduceIte, za, zb, zc, zd, ze, zf, zg, zh, zi, zj, zk, zl, zm, zn, zo, dec_t, dec_f, ltI, leI, leN, le63, le40, le0, wrap64_id, wrapu64_id, wrap8_id]
  refine tr_wc (by rfl) (by simp only [go_sem, ↓reduceIte, za, zb, zc, zd, ze, zf, zg, zh, zi, zj, zk, zl, zm, zn, zo] <;> rfl) (c158 σ oid r _ (by decide) (by decide) hσ) ?_
  simp (disch := omega) only [go_sem, ↓reduceIte, za, zb, zc, zd, ze, zf, zg, zh, zi, zj, zk, zl, zm, zn, zo, dec_t, dec_f, ltI, leI, leN, le63, le40, le0, wrap64_id, wrapu64_id, wrap8_id]
  refine tr_nil (hK _ _ _ ?_)
  clear hK K hbase hfr base
  refine awp_region_k (fun _ => false) (by rw [hB]; rfl) fun K hK base hbase hfr => tr_run ?_
  simp (disch := omega) only [go_sem, ↓reduceIte, za, zb, zc, zd, ze, zf, zg, zh, zi, zj, zk, zl, zm, zn, zo, dec_t, dec_f, ltI, leI, leN, le63, le40, le0, wrap64_id, wrapu64_id, wrap8_id]
  refine tr_wc (by rfl) (by simp only [go_sem, ↓reduceIte, za, zb, zc, zd, ze, zf, zg, zh, zi, zj, zk, zl, zm, zn, zo] <;> rfl) (c158 _ oid (rCtxA r) _ (by decide) (by decide) (setOb_same _ _ _)) ?_
  simp (disch := omega) only [go_sem, ↓reduceIte, za, zb, zc, zd, ze, zf, zg, zh, zi, zj, zk, zl, zm, zn, zo, dec_t, dec_f, ltI, leI, leN, le63, le40, le0, wrap64_id, wrapu64_id, wrap8_id]
  refine tr_nil (hK _ _ _ ?_)
  clear hK K hbase hfr base
  refine awp_seq ?_
  rcases q1 : (rRow 1000 (rCtxA r)).2.torn with _ | _
  · skip
    refine awp_region_k (fun _ => false) (by rw [hB]; rfl) fun K hK base hbase hfr => tr_run ?_
    simp (disch := omega) only [go_sem, ↓reduceIte, za, zb, zc, zd, ze, zf, zg, zh, zi, zj, zk, zl, zm, zn, zo, q1, dec_t, dec_f, ltI, leI, leN, le63, le40, le0, wrap64_id, wrapu64_id, wrap8_id]
    refine tr_pc (by simp only [go_sem, ↓reduceIte, za, zb, zc, zd, ze, zf, zg, zh, zi, zj, zk, zl, zm, zn, zo, q1]) (by simp only [go_sem, ↓reduceIte, za, zb, zc, zd, ze, zf, zg, zh, zi, zj, zk, zl, zm, zn, zo, q1] <;> rfl) (c159 (rCtxV r) .no .no (rRow_in _ _)) ?_
    simp (disch := omega) only [go_sem, ↓reduceIte, za, zb, zc, zd, ze, zf, zg, zh, zi, zj, zk, zl, zm, zn, zo, q1, dec_t, dec_f, ltI, leI, leN, le63, le40, le0, wrap64_id, wrapu64_id, wrap8_id]
    refine tr_nil (hK _ _ _ ?_)
    clear hK K hbase hfr base
    try simp only [yb, yc, yd, ye, yf, yg, yh, yi, yj, yk, yl, ym, yn, yo] at q1
    refine awp_cond (rfl) (fun h2 => ?_) (fun h2 => ?_)
    · try simp only [yb, yc, yd, ye, yf, yg, yh, yi, yj, yk, yl, ym, yn, yo] at h2
      refine awp_region_k (fun _ => false) (by rw [hB]; rfl) fun K hK base hbase hfr => tr_run ?_
      simp (disch := omega) only [go_sem, ↓reduceIte, za, zb, zc, zd, ze, zf, zg, zh, zi, zj, zk, zl, zm, zn, zo, dec_t, dec_f, ltI, leI, leN, le63, le40, le0, wrap64_id, wrapu64_id, wrap8_id]
      refine tr_nil (hK _ _ _ ?_)
      clear hK K hbase hfr base
      refine awp_region_k (fun _ => false) (by rw [hB]; rfl) fun K hK base hbase hfr => tr_run ?_
      simp (disch := omega) only [go_sem, ↓reduceIte, za, zb, zc, zd, ze, zf, zg, zh, zi, zj, zk, zl, zm, zn, zo, dec_t, dec_f, ltI, leI, leN, le63, le40, le0, wrap64_id, wrapu64_id, wrap8_id]
      refine tr_nil (hK _ _ _ ?_)
      clear hK K hbase hfr base
      refine awp_ret ?_
      refine then_r ?_
      have e : cCheck (rCtxV r) = false := by cases hh : cCheck (rCtxV r) <;> simp_all
      rw [rCtx_bad (.inr e)]
      exact ⟨_, rfl, .one (.agg (.cons (.no _ _) (.cons (.no _ _) .nil))), fun _ _ h => h, fun _ h => h⟩
    · try simp only [yb, yc, yd, ye, yf, yg, yh, yi, yj, yk, yl, ym, yn, yo] at h2
      refine awp_skip ?_
      refine then_n ?_
      refine awp_region_k (fun _ => false) (by rw [hB]; rfl) fun K hK base hbase hfr => tr_run ?_
      simp (disch := omega) only [go_sem, ↓reduceIte, za, zb, zc, zd, ze, zf, zg, zh, zi, zj, zk, zl, zm, zn, zo, dec_t, dec_f, ltI, leI, leN, le63, le40, le0, wrap64_id, wrapu64_id, wrap8_id]
      refine tr_nil (hK _ _ _ ?_)
      clear hK K hbase hfr base
      refine awp_ret ?_
      have e : cCheck (rCtxV r) = true := by cases hh : cCheck (rCtxV r) <;> simp_all
      rw [rCtx_ok q1 e, show rdV (rCtxB r) = [.str (rCtxB r).s, .bool false] by rw [show false = (rCtxB r).torn from q1.symm]; rfl]
      exact ⟨_, rfl, .one (.agg (.cons (.no _ _) (.cons (.no _ _) .nil))), fun _ _ h => h, fun _ h => h⟩
  · skip
    refine awp_region_k (fun _ => false) (by rw [hB]; rfl) fun K hK base hbase hfr => tr_run ?_
    simp (disch := omega) only [go_sem, ↓reduceIte, za, zb, zc, zd, ze, zf, zg, zh, zi, zj, zk, zl, zm, zn, zo, q1, dec_t, dec_f, ltI, leI, leN, le63, le40, le0, wrap64_id, wrapu64_id, wrap8_id]
    refine tr_nil (hK _ _ _ ?_)
    clear hK K hbase hfr base
    try simp only [yb, yc, yd, ye, yf, yg, yh, yi, yj, yk, yl, ym, yn, yo] at q1
    refine awp_cond (rfl) (fun h3 => ?_) (fun h3 => by cases h3)
    refine awp_region_k (fun _ => false) (by rw [hB]; rfl) fun K hK base hbase hfr => tr_run ?_
    simp (disch := omega) only [go_sem, ↓reduceIte, za, zb, zc, zd, ze, zf, zg, zh, zi, zj, zk, zl, zm, zn, zo, dec_t, dec_f, ltI, leI, leN, le63, le40, le0, wrap64_id, wrapu64_id, wrap8_id]
    refine tr_nil (hK _ _ _ ?_)
    clear hK K hbase hfr base
    refine awp_region_k (fun _ => false) (by rw [hB]; rfl) fun K hK base hbase hfr => tr_run ?_
    simp (disch := omega) only [go_sem, ↓reduceIte, za, zb, zc, zd, ze, zf, zg, zh, zi, zj, zk, zl, zm, zn, zo, dec_t, dec_f, ltI, leI, leN, le63, le40, le0, wrap64_id, wrapu64_id, wrap8_id]
    refine tr_nil (hK _ _ _ ?_)
    clear hK K hbase hfr base
    refine awp_ret ?_
    refine then_r ?_
    rw [rCtx_bad (.inl q1)]
    exact ⟨_, rfl, .one (.agg (.cons (.no _ _) (.cons (.no _ _) .nil))), fun _ _ h => h, fun _ h => h⟩
end Go.Am
namespace Go.Am
open Go
open Nat renaming reduceEqDiff → za, reduceAdd → zb, reduceMul → zc, reducePow → zd, reduceLeDiff → ze, reduceSub → zf, reduceBEq → zg, reduceBNe → zh, reduceDiv → zi, reduceMod → zj
open Int renaming reduceLT → zk, reduceLE → zl, reduceEq → zm, reduceNe → zn, reduceToNat → zo
def sameDot (a b : Int × Int) : Bool := a.1 == b.1 && a.2 == b.2
def msg0 : Msg := ⟨(0, 0), [], [], 0⟩
def bGet : List Msg → Int × Int → Msg × Bool
  | [], _ => (msg0, false)
  | m :: l, d => if sameDot m.d d then (m, true) else bGet l d
def nameOk (s : List UInt8) : Bool := decide ((1 : Int) ≤ (s.length : Int)) && decide ((s.length : Int) ≤ 40)
def nNum : List Tg → List UInt8 → Int
  | [], _ => 0
  | t :: l, s => if t.s = s then t.n else nNum l s
theorem c15 (b : Bag) (t0 t1 t2 : Tag) (d : Int × Int) : PCalls Go.Proofs.Tryz.prog 15 [bagV b t0 t1 t2, dot d] (.tuple [msgV (bGet b.live d).1, .bool (bGet b.live d).2]) := by
  refine pcalls_of_awp Go.Proofs.Tryz.func15 rfl (by decide) (Nat.le_of_ble_eq_true rfl) ?_
  intro B σ hB ho hob
  refine awp_region_k (fun _ => false) (by rw [hB]; rfl) fun K hK base hbase hfr => tr_run ?_
  simp (disch := omega) only [go_sem, ↓reduceIte, za, zb, zc, zd, ze, zf, zg, zh, zi, zj, zk, zl, zm, zn, zo, dec_t, dec_f, ltI, leI, leN, le63, le40, le0, wrap64_id, wrapu64_id, wrap8_id]
  refine tr_nil (hK _ _ _ ?_)
  clear hK K hbase hfr base
  refine awp_seq ?_
  refine awp_region_k (fun _ => false) (by rw [hB]; rfl) fun K hK base hbase hfr => tr_run ?_
  simp (disch := omega) only [go_sem, ↓reduceIte, za, zb, zc, zd, ze, zf, zg, zh, zi, zj, zk, zl, zm, zn, zo, dec_t, dec_f, ltI, leI, leN, le63, le40, le0, wrap64_id, wrapu64_id, wrap8_id]
  refine tr_nil (hK _ _ _ ?_)
  clear hK K hbase hfr base
  refine awp_block ?_
  refine awp_loop_w (α := Nat) (fun x => bGet (b.live.drop x) d = bGet b.live d) (fun x => [(2, .lref 2 0), (3, .lref 3 0), (4, .lref 4 0), (5, .bool false), (6, .int .i64 x)]) (fun x => [(2, [.list (b.live.map msgV) t0, .list (b.ctx.base.map dot) t1, .list (b.ctx.cloud.map dot) t2]), (3, [.int .i64 d.1, .int .i64 d.2]), (4, [.int .i64 0, .int .i64 0, .str [], .str [], .int .i64 0])]) (fun x => σ) (fun x => b.live.length - x) 0 ?_ ?_ ?_ (Sh.sub_refl _) ?_
  · exact rfl
  · exact Env.subW_one rfl <| Env.subW_one rfl <| Env.subW_one rfl <| Env.subW_one rfl <| Env.subW_one rfl <| Env.subW_nil _
  · exact Boxes.subW_one rfl <| Boxes.subW_one rfl <| Boxes.subW_one rfl <| Boxes.subW_nil _
  rintro i h0
  try dsimp only at h0
  refine awp_seq ?_
  refine awp_region_k (fun _ => false) (by rw [hB]; rfl) fun K hK base hbase hfr => tr_run ?_
  simp (disch := omega) only [go_sem, ↓reduceIte, za, zb, zc, zd, ze, zf, zg, zh, zi, zj, zk, zl, zm, zn, zo, dec_t, dec_f, ltI, leI, leN, le63, le40, le0, wrap64_id, wrapu64_id, wrap8_id]
  refine tr_nil (hK _ _ _ ?_)
  clear hK K hbase hfr base
  refine awp_len 9 rfl fun hlen => ?_
  simp only [List.length_map] at hlen
  refine awp_cond (rfl) (fun h1 => ?_) (fun h1 => ?_)
  · try simp only [yb, yc, yd, ye, yf, yg, yh, yi, yj, yk, yl, ym, yn, yo] at h1
    obtain ⟨x, hx, hm, hi⟩ := get_of_lt h1
    refine awp_skip ?_
    refine then_n ?_
    refine awp_seq ?_
    refine awp_block ?_
    refine awp_drawn_k (fun _ => false) (fun _ => false) (by kernel_rfl) (by decide) (by rw [hB]; rfl) fun K hK base hbase hfr => trd_run ?_
    simp (disch := omega) only [go_sem, ↓reduceIte, za, zb, zc, zd, ze, zf, zg, zh, zi, zj, zk, zl, zm, zn, zo, hx, dec_t, dec_f, ltI, leI, leN, le63, le40, le0, wrap64_id, wrapu64_id, wrap8_id]
    refine trd_nil (hK _ _ _ ?_)
    clear hK K hbase hfr base
    refine awp_cond (rfl) (fun h2 => ?_) (fun h2 => ?_)
    · try simp only [yb, yc, yd, ye, yf, yg, yh, yi, yj, yk, yl, ym, yn, yo] at h2
      refine awp_region_k (fun _ => false) (by rw [hB]; rfl) fun K hK base hbase hfr => tr_run ?_
      simp (disch := omega) only [go_sem, ↓reduceIte, za, zb, zc, zd, ze, zf, zg, zh, zi, zj, zk, zl, zm, zn, zo, hx, dec_t, dec_f, ltI, leI, leN, le63, le40, le0, wrap64_id, wrapu64_id, wrap8_id]
      refine tr_nil (hK _ _ _ ?_)
      clear hK K hbase hfr base
      refine awp_ret ?_
      refine block_r ?_
      refine then_r ?_
      refine then_r ?_
      refine block_r ?_
      refine then_r ?_
      refine ⟨_, rfl, ?_, fun _ _ h => h, fun _ h => h⟩
      have e : sameDot x.d d = true := by unfold sameDot; simp_all
      have : bGet b.live d = (x, true) := by rw [← h0, drop_cons_of hx, bGet, if_pos e]
      rw [this]; exact VW.refl _
    · try simp only [yb, yc, yd, ye, yf, yg, yh, yi, yj, yk, yl, ym, yn, yo] at h2
      refine awp_skip ?_
      refine block_n ?_
      refine then_n ?_
      refine awp_region_e (fun _ => false) (by rw [hB]; rfl) fun K hK base hbase hfr => tr_run ?_
      simp (disch := omega) only [go_sem, ↓reduceIte, za, zb, zc, zd, ze, zf, zg, zh, zi, zj, zk, zl, zm, zn, zo, dec_t, dec_f, ltI, leI, leN, le63, le40, le0, wrap64_id, wrapu64_id, wrap8_id]
      refine tr_nil (hK _ _ _ ?_)
      clear hK K hbase hfr base
      refine then_n ⟨i + 1, ?_, ?_, ?_, ?_, Sh.sub_refl _⟩
      · show bGet (b.live.drop (i + 1)) d = bGet b.live d
        have e : sameDot x.d d = false := by unfold sameDot; cases hh : (x.d.1 == d.1 && x.d.2 == d.2) <;> simp_all
        rw [← h0, drop_cons_of hx, bGet, e]; rfl
      · show b.live.length - (i + 1) < b.live.length - i; omega
      · exact Env.subW_one rfl <| Env.subW_one rfl <| Env.subW_one rfl <| Env.subW_one rfl <| Env.subW_one rfl <| Env.subW_nil _
      · exact Boxes.subW_one rfl <| Boxes.subW_one rfl <| Boxes.subW_one rfl <| Boxes.subW_nil _
  · try simp only [yb, yc, yd, ye, yf, yg, yh, yi, yj, yk, yl, ym, yn, yo] at h1
    refine awp_exit ?_
    refine then_x ?_
    refine then_x ?_
    refine block_x ?_
    refine then_n ?_
    refine awp_region_k (fun _ => false) (by rw [hB]; rfl) fun K hK base hbase hfr => tr_run ?_
    simp (disch := omega) only [go_sem, ↓reduceIte, za, zb, zc, zd, ze, zf, zg, zh, zi, zj, zk, zl, zm, zn, zo, dec_t, dec_f, ltI, leI, leN, le63, le40, le0, wrap64_id, wrapu64_id, wrap8_id]
    refine tr_nil (hK _ _ _ ?_)
    clear hK K hbase hfr base
    refine awp_ret ?_
    refine ⟨_, rfl, ?_, fun _ _ h => h, fun _ h => h⟩
    have : bGet b.live d = (msg0, false) := by rw [← h0, get_le h1]; rfl
    rw [this]; exact VW.refl _
theorem c161 (s : List UInt8) : PCalls Go.Proofs.Tryz.prog 161 [.str s] (.bool (nameOk s)) := by
  rcases g0 : decide ((1 : Int) ≤ (s.length : Int)) with _ | _
  · simp only [nameOk, Bool.or_true, Bool.or_false, Bool.false_or, Bool.and_true, Bool.and_false, Bool.false_and, Bool.true_and, Bool.true_or, Bool.or_self, Bool.and_self, Bool.cond_true, Bool.cond_false, Bool.not_true, Bool.not_false, g0]
    refine pcalls_of_awp Go.Proofs.Tryz.func161 rfl (by decide) (Nat.le_of_ble_eq_true rfl) ?_
    intro B σ hB ho hob
    refine awp_region_k (fun _ => false) (by rw [hB]; rfl) fun K hK base hbase hfr => tr_run ?_
    simp only [go_sem, ↓reduceIte, za, zb, zc, zd, ze, zf, zg, zh, zi, zj, zk, zl, zm, zn, zo, g0]
    refine tr_nil (hK _ _ _ ?_)
    clear hK K hbase hfr base
    refine awp_region_k (fun _ => false) (by rw [hB]; rfl) fun K hK base hbase hfr => tr_run ?_
    simp only [go_sem, ↓reduceIte, za, zb, zc, zd, ze, zf, zg, zh, zi, zj, zk, zl, zm, zn, zo, g0]
    refine tr_nil (hK _ _ _ ?_)
    clear hK K hbase hfr base
    refine awp_ret ?_
    refine ⟨_, rfl, ?_, fun _ _ h => h, fun _ h => h⟩
    exact VW.refl _
  · simp only [nameOk, Bool.or_true, Bool.or_false, Bool.false_or, Bool.and_true, Bool.and_false, Bool.false_and, Bool.true_and, Bool.true_or, Bool.or_self, Bool.and_self, Bool.cond_true, Bool.cond_false, Bool.not_true, Bool.not_false, g0]
    refine pcalls_of_awp Go.Proofs.Tryz.func161 rfl (by decide) (Nat.le_of_ble_eq_true rfl) ?_
    intro B σ hB ho hob
    refine awp_region_k (fun _ => false) (by rw [hB]; rfl) fun K hK base hbase hfr => tr_run ?_
    simp only [go_sem, ↓reduceIte, za, zb, zc, zd, ze, zf, zg, zh, zi, zj, zk, zl, zm, zn, zo, g0]
    refine tr_nil (hK _ _ _ ?_)
    clear hK K hbase hfr base
    refine awp_region_k (fun _ => false) (by rw [hB]; rfl) fun K hK base hbase hfr => tr_run ?_
    simp only [go_sem, ↓reduceIte, za, zb, zc, zd, ze, zf, zg, zh, zi, zj, zk, zl, zm, zn, zo, g0]
    refine tr_nil (hK _ _ _ ?_)
    clear hK K hbase hfr base
    refine awp_ret ?_
    refine ⟨_, rfl, ?_, fun _ _ h => h, fun _ h => h⟩
    exact VW.refl _
theorem c111 (l : List Tg) (tg : Tag) (s : List UInt8) : PCalls Go.Proofs.Tryz.prog 111 [.list (l.map tgV) tg, .str s] (.int .i64 (nNum l s)) := by
  refine pcalls_of_awp Go.Proofs.Tryz.func111 rfl (by decide) (Nat.le_of_ble_eq_true rfl) ?_
  intro B σ hB ho hob
  refine awp_region_k (fun _ => false) (by rw [hB]; rfl) fun K hK base hbase hfr => tr_run ?_
  simp (disch := omega) only [go_sem, ↓reduceIte, za, zb, zc, zd, ze, zf, zg, zh, zi, zj, zk, zl, zm, zn, zo, dec_t, dec_f, ltI, leI, leN, le63, le40, le0, wrap64_id, wrapu64_id, wrap8_id]
  refine tr_nil (hK _ _ _ ?_)
  clear hK K hbase hfr base
  refine awp_seq ?_
  refine awp_region_k (fun _ => false) (by rw [hB]; rfl) fun K hK base hbase hfr => tr_run ?_
  simp (disch := omega) only [go_sem, ↓reduceIte, za, zb, zc, zd, ze, zf, zg, zh, zi, zj, zk, zl, zm, zn, zo, dec_t, dec_f, ltI, leI, leN, le63, le40, le0, wrap64_id, wrapu64_id, wrap8_id]
  refine tr_nil (hK _ _ _ ?_)
  clear hK K hbase hfr base
  refine awp_block ?_
  refine awp_loop_w (α := Nat) (fun x => nNum (l.drop x) s = nNum l s) (fun x => [(0, .list (l.map tgV) tg), (1, .str s), (5, .int .i64 x)]) (fun x => []) (fun x => σ) (fun x => l.length - x) 0 ?_ ?_ (Boxes.subW_nil _) (Sh.sub_refl _) ?_
  · exact rfl
  · exact Env.subW_one rfl <| Env.subW_one rfl <| Env.subW_one rfl <| Env.subW_nil _
  rintro i h0
  try dsimp only at h0
  refine awp_len 0 rfl fun hlen => ?_
  simp only [List.length_map] at hlen
  refine awp_seq ?_
  refine awp_region_k (fun _ => false) (by rw [hB]; rfl) fun K hK base hbase hfr => tr_run ?_
  simp (disch := omega) only [go_sem, ↓reduceIte, za, zb, zc, zd, ze, zf, zg, zh, zi, zj, zk, zl, zm, zn, zo, dec_t, dec_f, ltI, leI, leN, le63, le40, le0, wrap64_id, wrapu64_id, wrap8_id]
  refine tr_nil (hK _ _ _ ?_)
  clear hK K hbase hfr base
  refine awp_cond (rfl) (fun h1 => ?_) (fun h1 => ?_)
  · try simp only [yb, yc, yd, ye, yf, yg, yh, yi, yj, yk, yl, ym, yn, yo] at h1
    obtain ⟨x, hx, hm, hi⟩ := get_of_lt h1
    refine awp_skip ?_
    refine then_n ?_
    refine awp_seq ?_
    refine awp_block ?_
    refine awp_region_k (fun _ => false) (by rw [hB]; rfl) fun K hK base hbase hfr => tr_run ?_
    simp (disch := omega) only [go_sem, ↓reduceIte, za, zb, zc, zd, ze, zf, zg, zh, zi, zj, zk, zl, zm, zn, zo, hx, dec_t, dec_f, ltI, leI, leN, le63, le40, le0, wrap64_id, wrapu64_id, wrap8_id]
    refine tr_nil (hK _ _ _ ?_)
    clear hK K hbase hfr base
    refine awp_cond (rfl) (fun h2 => ?_) (fun h2 => ?_)
    · try simp only [yb, yc, yd, ye, yf, yg, yh, yi, yj, yk, yl, ym, yn, yo] at h2
      refine awp_region_k (fun _ => false) (by rw [hB]; rfl) fun K hK base hbase hfr => tr_run ?_
      simp (disch := omega) only [go_sem, ↓reduceIte, za, zb, zc, zd, ze, zf, zg, zh, zi, zj, zk, zl, zm, zn, zo, hx, dec_t, dec_f, ltI, leI, leN, le63, le40, le0, wrap64_id, wrapu64_id, wrap8_id]
      refine tr_nil (hK _ _ _ ?_)
      clear hK K hbase hfr base
      refine awp_ret ?_
      refine block_r ?_
      refine then_r ?_
      refine then_r ?_
      refine block_r ?_
      refine then_r ?_
      refine ⟨_, rfl, ?_, fun _ _ h => h, fun _ h => h⟩
      have : nNum l s = x.n := by rw [← h0, drop_cons_of hx, nNum, if_pos h2]
      rw [this]; exact VW.refl _
    · try simp only [yb, yc, yd, ye, yf, yg, yh, yi, yj, yk, yl, ym, yn, yo] at h2
      refine awp_skip ?_
      refine block_n ?_
      refine then_n ?_
      refine awp_region_e (fun _ => false) (by rw [hB]; rfl) fun K hK base hbase hfr => tr_run ?_
      simp (disch := omega) only [go_sem, ↓reduceIte, za, zb, zc, zd, ze, zf, zg, zh, zi, zj, zk, zl, zm, zn, zo, dec_t, dec_f, ltI, leI, leN, le63, le40, le0, wrap64_id, wrapu64_id, wrap8_id]
      refine tr_nil (hK _ _ _ ?_)
      clear hK K hbase hfr base
      refine then_n ⟨i + 1, ?_, ?_, ?_, ?_, Sh.sub_refl _⟩
      · show nNum (l.drop (i + 1)) s = nNum l s
        rw [← h0, drop_cons_of hx, nNum, if_neg h2]
      · show l.length - (i + 1) < l.length - i; omega
      · exact Env.subW_one rfl <| Env.subW_one rfl <| Env.subW_one rfl <| Env.subW_nil _
      · exact Boxes.subW_nil _
  · try simp only [yb, yc, yd, ye, yf, yg, yh, yi, yj, yk, yl, ym, yn, yo] at h1
    refine awp_exit ?_
    refine then_x ?_
    refine then_x ?_
    refine block_x ?_
    refine then_n ?_
    refine awp_region_k (fun _ => false) (by rw [hB]; rfl) fun K hK base hbase hfr => tr_run ?_
    simp (disch := omega) only [go_sem, ↓reduceIte, za, zb, zc, zd, ze, zf, zg, zh, zi, zj, zk, zl, zm, zn, zo, dec_t, dec_f, ltI, leI, leN, le63, le40, le0, wrap64_id, wrapu64_id, wrap8_id]
    refine tr_nil (hK _ _ _ ?_)
    clear hK K hbase hfr base
    refine awp_ret ?_
    refine ⟨_, rfl, ?_, fun _ _ h => h, fun _ h => h⟩
    have : nNum l s = 0 := by rw [← h0, get_le h1]; rfl
    rw [this]; exact VW.refl _
theorem c115 (l : List Peer) (tg : Tag) : PCalls Go.Proofs.Tryz.prog 115 [.list (l.map peerV) tg] (.list ((l.take 64).map peerV) .no) := by
  refine pcalls_of_awp Go.Proofs.Tryz.func115 rfl (by decide) (Nat.le_of_ble_eq_true rfl) ?_
  intro B σ hB ho hob
  refine awp_region_k (fun _ => false) (by rw [hB]; rfl) fun K hK base hbase hfr => tr_run ?_
  simp (disch := omega) only [go_sem, ↓reduceIte, za, zb, zc, zd, ze, zf, zg, zh, zi, zj, zk, zl, zm, zn, zo, dec_t, dec_f, ltI, leI, leN, le63, le40, le0, wrap64_id, wrapu64_id, wrap8_id]
  refine tr_nil (hK _ _ _ ?_)
  clear hK K hbase hfr base
  refine awp_seq ?_
  refine awp_region_k (fun _ => false) (by rw [hB]; rfl) fun K hK base hbase hfr => tr_run ?_
  simp (disch := omega) only [go_sem, ↓reduceIte, za, zb, zc, zd, ze, zf, zg, zh, zi, zj, zk, zl, zm, zn, zo, dec_t, dec_f, ltI, leI, leN, le63, le40, le0, wrap64_id, wrapu64_id, wrap8_id]
  refine tr_nil (hK _ _ _ ?_)
  clear hK K hbase hfr base
  refine awp_cond (rfl) (fun h1 => ?_) (fun h1 => ?_)
  · try simp only [yb, yc, yd, ye, yf, yg, yh, yi, yj, yk, yl, ym, yn, yo] at h1
    refine awp_region_k (fun _ => false) (by rw [hB]; rfl) fun K hK base hbase hfr => tr_run ?_
    simp (disch := omega) only [go_sem, ↓reduceIte, za, zb, zc, zd, ze, zf, zg, zh, zi, zj, zk, zl, zm, zn, zo, dec_t, dec_f, ltI, leI, leN, le63, le40, le0, wrap64_id, wrapu64_id, wrap8_id]
    refine tr_nil (hK _ _ _ ?_)
    clear hK K hbase hfr base
    refine awp_ret ?_
    refine then_r ?_
    refine ⟨_, rfl, ?_, fun _ _ h => h, fun _ h => h⟩
    exact .one (.one (.no _ _))
  · try simp only [yb, yc, yd, ye, yf, yg, yh, yi, yj, yk, yl, ym, yn, yo] at h1
    refine awp_skip ?_
    refine then_n ?_
    refine awp_region_k (fun _ => false) (by rw [hB]; rfl) fun K hK base hbase hfr => tr_run ?_
    simp (disch := omega) only [go_sem, ↓reduceIte, za, zb, zc, zd, ze, zf, zg, zh, zi, zj, zk, zl, zm, zn, zo, dec_t, dec_f, ltI, leI, leN, le63, le40, le0, wrap64_id, wrapu64_id, wrap8_id]
    refine tr_nil (hK _ _ _ ?_)
    clear hK K hbase hfr base
    refine awp_ret ?_
    refine ⟨_, rfl, ?_, fun _ _ h => h, fun _ h => h⟩
    rw [List.take_of_length_le (by omega)]; exact .one (.one (.no _ _))
end Go.Am
namespace Go.Am
open Go
open Nat renaming reduceEqDiff → za, reduceAdd → zb, reduceMul → zc, reducePow → zd, reduceLeDiff → ze, reduceSub → zf, reduceBEq → zg, reduceBNe → zh, reduceDiv → zi, reduceMod → zj
open Int renaming reduceLT → zk, reduceLE → zl, reduceEq → zm, reduceNe → zn, reduceToNat → zo
def mTake (a b : Msg) : Bool := Op.bytesLess b.q a.q || (b.q == a.q && Op.bytesLess b.b a.b)
def mBoth (a b : Msg) : Msg := { (if mTake a b then b else a) with c := if a.c < b.c then b.c else a.c }
theorem c109x (a b : Msg) (g0 : Op.bytesLess b.q a.q = true) : PCalls Go.Proofs.Tryz.prog 109 [msgV a, msgV b] (msgV (mBoth a b)) := by
  have hT : mTake a b = true := by unfold mTake; simp only [g0]; rfl
  refine pcalls_of_awp Go.Proofs.Tryz.func109 rfl (by decide) (Nat.le_of_ble_eq_true rfl) ?_
  intro B σ hB ho hob
  refine awp_region_k (fun _ => false) (by rw [hB]; rfl) fun K hK base hbase hfr => tr_run ?_
  simp (disch := omega) only [go_sem, ↓reduceIte, za, zb, zc, zd, ze, zf, zg, zh, zi, zj, zk, zl, zm, zn, zo, dec_t, dec_f, ltI, leI, leN, le63, le40, le0, wrap64_id, wrapu64_id, wrap8_id]
  refine tr_nil (hK _ _ _ ?_)
  clear hK K hbase hfr base
  refine awp_region_k (fun _ => false) (by rw [hB]; rfl) fun K hK base hbase hfr => tr_run ?_
  simp (disch := omega) only [go_sem, ↓reduceIte, za, zb, zc, zd, ze, zf, zg, zh, zi, zj, zk, zl, zm, zn, zo, dec_t, dec_f, ltI, leI, leN, le63, le40, le0, wrap64_id, wrapu64_id, wrap8_id]
  refine tr_nil (hK _ _ _ ?_)
  clear hK K hbase hfr base
  refine awp_seq ?_
  refine awp_region_k (fun _ => false) (by rw [hB]; rfl) fun K hK base hbase hfr => tr_run ?_
  simp (disch := omega) only [go_sem, ↓reduceIte, za, zb, zc, zd, ze, zf, zg, zh, zi, zj, zk, zl, zm, zn, zo, g0, dec_t, dec_f, ltI, leI, leN, le63, le40, le0, wrap64_id, wrapu64_id, wrap8_id]
  refine tr_nil (hK _ _ _ ?_)
  clear hK K hbase hfr base
  refine awp_cond (rfl) (fun h1 => ?_) (fun h1 => by cases h1)
  refine awp_region_e (fun _ => false) (by rw [hB]; rfl) fun K hK base hbase hfr => tr_run ?_
  simp (disch := omega) only [go_sem, ↓reduceIte, za, zb, zc, zd, ze, zf, zg, zh, zi, zj, zk, zl, zm, zn, zo, dec_t, dec_f, ltI, leI, leN, le63, le40, le0, wrap64_id, wrapu64_id, wrap8_id]
  refine tr_nil (hK _ _ _ ?_)
  clear hK K hbase hfr base
  refine then_n ?_
  refine awp_region_k (fun _ => false) (by rw [hB]; rfl) fun K hK base hbase hfr => tr_run ?_
  simp (disch := omega) only [go_sem, ↓reduceIte, za, zb, zc, zd, ze, zf, zg, zh, zi, zj, zk, zl, zm, zn, zo, dec_t, dec_f, ltI, leI, leN, le63, le40, le0, wrap64_id, wrapu64_id, wrap8_id]
  refine tr_nil (hK _ _ _ ?_)
  clear hK K hbase hfr base
  refine awp_seq ?_
  refine awp_region_k (fun _ => false) (by rw [hB]; rfl) fun K hK base hbase hfr => tr_run ?_
  simp (disch := omega) only [go_sem, ↓reduceIte, za, zb, zc, zd, ze, zf, zg, zh, zi, zj, zk, zl, zm, zn, zo, dec_t, dec_f, ltI, leI, leN, le63, le40, le0, wrap64_id, wrapu64_id, wrap8_id]
  refine tr_nil (hK _ _ _ ?_)
  clear hK K hbase hfr base
  refine awp_cond (rfl) (fun h2 => ?_) (fun h2 => ?_)
  · try simp only [yb, yc, yd, ye, yf, yg, yh, yi, yj, yk, yl, ym, yn, yo] at h2
    refine awp_region_e (fun _ => false) (by rw [hB]; rfl) fun K hK base hbase hfr => tr_run ?_
    simp (disch := omega) only [go_sem, ↓reduceIte, za, zb, zc, zd, ze, zf, zg, zh, zi, zj, zk, zl, zm, zn, zo, dec_t, dec_f, ltI, leI, leN, le63, le40, le0, wrap64_id, wrapu64_id, wrap8_id]
    refine tr_nil (hK _ _ _ ?_)
    clear hK K hbase hfr base
    refine then_n ?_
    refine awp_region_k (fun _ => false) (by rw [hB]; rfl) fun K hK base hbase hfr => tr_run ?_
    simp (disch := omega) only [go_sem, ↓reduceIte, za, zb, zc, zd, ze, zf, zg, zh, zi, zj, zk, zl, zm, zn, zo, dec_t, dec_f, ltI, leI, leN, le63, le40, le0, wrap64_id, wrapu64_id, wrap8_id]
    refine tr_nil (hK _ _ _ ?_)
    clear hK K hbase hfr base
    refine awp_ret ?_
    refine ⟨_, rfl, ?_, fun _ _ h => h, fun _ h => h⟩
    rw [show mBoth a b = ⟨b.d, b.q, b.b, b.c⟩ by unfold mBoth; rw [if_pos hT, if_pos (by omega)]]; exact VW.refl _
  · try simp only [yb, yc, yd, ye, yf, yg, yh, yi, yj, yk, yl, ym, yn, yo] at h2
    refine awp_skip ?_
    refine then_n ?_
    refine awp_region_k (fun _ => false) (by rw [hB]; rfl) fun K hK base hbase hfr => tr_run ?_
    simp (disch := omega) only [go_sem, ↓reduceIte, za, zb, zc, zd, ze, zf, zg, zh, zi, zj, zk, zl, zm, zn, zo, dec_t, dec_f, ltI, leI, leN, le63, le40, le0, wrap64_id, wrapu64_id, wrap8_id]
    refine tr_nil (hK _ _ _ ?_)
    clear hK K hbase hfr base
    refine awp_ret ?_
    refine ⟨_, rfl, ?_, fun _ _ h => h, fun _ h => h⟩
    rw [show mBoth a b = ⟨b.d, b.q, b.b, a.c⟩ by unfold mBoth; rw [if_pos hT, if_neg (by omega)]]; exact VW.refl _
theorem c109y (a b : Msg) (g0 : Op.bytesLess b.q a.q = false) (g1 : (b.q == a.q) = false) : PCalls Go.Proofs.Tryz.prog 109 [msgV a, msgV b] (msgV (mBoth a b)) := by
  have hT : mTake a b = false := by unfold mTake; simp only [g0, g1]; rfl
  refine pcalls_of_awp Go.Proofs.Tryz.func109 rfl (by decide) (Nat.le_of_ble_eq_true rfl) ?_
  intro B σ hB ho hob
  refine awp_region_k (fun _ => false) (by rw [hB]; rfl) fun K hK base hbase hfr => tr_run ?_
  simp (disch := omega) only [go_sem, ↓reduceIte, za, zb, zc, zd, ze, zf, zg, zh, zi, zj, zk, zl, zm, zn, zo, dec_t, dec_f, ltI, leI, leN, le63, le40, le0, wrap64_id, wrapu64_id, wrap8_id]
  refine tr_nil (hK _ _ _ ?_)
  clear hK K hbase hfr base
  refine awp_region_k (fun _ => false) (by rw [hB]; rfl) fun K hK base hbase hfr => tr_run ?_
  simp (disch := omega) only [go_sem, ↓reduceIte, za, zb, zc, zd, ze, zf, zg, zh, zi, zj, zk, zl, zm, zn, zo, dec_t, dec_f, ltI, leI, leN, le63, le40, le0, wrap64_id, wrapu64_id, wrap8_id]
  refine tr_nil (hK _ _ _ ?_)
  clear hK K hbase hfr base
  refine awp_seq ?_
  refine awp_region_k (fun _ => false) (by rw [hB]; rfl) fun K hK base hbase hfr => tr_run ?_
  simp (disch := omega) only [go_sem, ↓reduceIte, za, zb, zc, zd, ze, zf, zg, zh, zi, zj, zk, zl, zm, zn, zo, g0, g1, dec_t, dec_f, ltI, leI, leN, le63, le40, le0, wrap64_id, wrapu64_id, wrap8_id]
  refine tr_nil (hK _ _ _ ?_)
  clear hK K hbase hfr base
  refine awp_cond (rfl) (fun h1 => by cases h1) (fun h1 => ?_)
  refine awp_skip ?_
  refine then_n ?_
  refine awp_region_k (fun _ => false) (by rw [hB]; rfl) fun K hK base hbase hfr => tr_run ?_
  simp (disch := omega) only [go_sem, ↓reduceIte, za, zb, zc, zd, ze, zf, zg, zh, zi, zj, zk, zl, zm, zn, zo, dec_t, dec_f, ltI, leI, leN, le63, le40, le0, wrap64_id, wrapu64_id, wrap8_id]
  refine tr_nil (hK _ _ _ ?_)
  clear hK K hbase hfr base
  refine awp_seq ?_
  refine awp_region_k (fun _ => false) (by rw [hB]; rfl) fun K hK base hbase hfr => tr_run ?_
  simp (disch := omega) only [go_sem, ↓reduceIte, za, zb, zc, zd, ze, zf, zg, zh, zi, zj, zk, zl, zm, zn, zo, dec_t, dec_f, ltI, leI, leN, le63, le40, le0, wrap64_id, wrapu64_id, wrap8_id]
  refine tr_nil (hK _ _ _ ?_)
  clear hK K hbase hfr base
  refine awp_cond (rfl) (fun h2 => ?_) (fun h2 => ?_)
  · try simp only [yb, yc, yd, ye, yf, yg, yh, yi, yj, yk, yl, ym, yn, yo] at h2
    refine awp_region_e (fun _ => false) (by rw [hB]; rfl) fun K hK base hbase hfr => tr_run ?_
    simp (disch := omega) only [go_sem, ↓reduceIte, za, zb, zc, zd, ze, zf, zg, zh, zi, zj, zk, zl, zm, zn, zo, dec_t, dec_f, ltI, leI, leN, le63, le40, le0, wrap64_id, wrapu64_id, wrap8_id]
    refine tr_nil (hK _ _ _ ?_)
    clear hK K hbase hfr base
    refine then_n ?_
    refine awp_region_k (fun _ => false) (by rw [hB]; rfl) fun K hK base hbase hfr => tr_run ?_
    simp (disch := omega) only [go_sem, ↓reduceIte, za, zb, zc, zd, ze, zf, zg, zh, zi, zj, zk, zl, zm, zn, zo, dec_t, dec_f, ltI, leI, leN, le63, le40, le0, wrap64_id, wrapu64_id, wrap8_id]
    refine tr_nil (hK _ _ _ ?_)
    clear hK K hbase hfr base
    refine awp_ret ?_
    refine ⟨_, rfl, ?_, fun _ _ h => h, fun _ h => h⟩
    rw [show mBoth a b = ⟨a.d, a.q, a.b, b.c⟩ by unfold mBoth; rw [if_neg (by rw [hT]; decide), if_pos (by omega)]]; exact VW.refl _
  · try simp only [yb, yc, yd, ye, yf, yg, yh, yi, yj, yk, yl, ym, yn, yo] at h2
    refine awp_skip ?_
    refine then_n ?_
    refine awp_region_k (fun _ => false) (by rw [hB]; rfl) fun K hK base hbase hfr => tr_run ?_
    simp (disch := omega) only [go_sem, ↓reduceIte, za, zb, zc, zd, ze, zf, zg, zh, zi, zj, zk, zl, zm, zn, zo, dec_t, dec_f, ltI, leI, leN, le63, le40, le0, wrap64_id, wrapu64_id, wrap8_id]
    refine tr_nil (hK _ _ _ ?_)
    clear hK K hbase hfr base
    refine awp_ret ?_
    refine ⟨_, rfl, ?_, fun _ _ h => h, fun _ h => h⟩
    rw [show mBoth a b = ⟨a.d, a.q, a.b, a.c⟩ by unfold mBoth; rw [if_neg (by rw [hT]; decide), if_neg (by omega)]]; exact VW.refl _
theorem c109z (a b : Msg) (g0 : Op.bytesLess b.q a.q = false) (g1 : (b.q == a.q) = true) (g2 : Op.bytesLess b.b a.b = true) : PCalls Go.Proofs.Tryz.prog 109 [msgV a, msgV b] (msgV (mBoth a b)) := by
  have hT : mTake a b = true := by unfold mTake; simp only [g0, g1, g2]; rfl
  refine pcalls_of_awp Go.Proofs.Tryz.func109 rfl (by decide) (Nat.le_of_ble_eq_true rfl) ?_
  intro B σ hB ho hob
  refine awp_region_k (fun _ => false) (by rw [hB]; rfl) fun K hK base hbase hfr => tr_run ?_
  simp (disch := omega) only [go_sem, ↓reduceIte, za, zb, zc, zd, ze, zf, zg, zh, zi, zj, zk, zl, zm, zn, zo, dec_t, dec_f, ltI, leI, leN, le63, le40, le0, wrap64_id, wrapu64_id, wrap8_id]
  refine tr_nil (hK _ _ _ ?_)
  clear hK K hbase hfr base
  refine awp_region_k (fun _ => false) (by rw [hB]; rfl) fun K hK base hbase hfr => tr_run ?_
  simp (disch := omega) only [go_sem, ↓reduceIte, za, zb, zc, zd, ze, zf, zg, zh, zi, zj, zk, zl, zm, zn, zo, dec_t, dec_f, ltI, leI, leN, le63, le40, le0, wrap64_id, wrapu64_id, wrap8_id]
  refine tr_nil (hK _ _ _ ?_)
  clear hK K hbase hfr base
  refine awp_seq ?_
  refine awp_region_k (fun _ => false) (by rw [hB]; rfl) fun K hK base hbase hfr => tr_run ?_
  simp (disch := omega) only [go_sem, ↓reduceIte, za, zb, zc, zd, ze, zf, zg, zh, zi, zj, zk, zl, zm, zn, zo, g0, g1, g2, dec_t, dec_f, ltI, leI, leN, le63, le40, le0, wrap64_id, wrapu64_id, wrap8_id]
  refine tr_nil (hK _ _ _ ?_)
  clear hK K hbase hfr base
  refine awp_cond (rfl) (fun h1 => ?_) (fun h1 => by cases h1)
  refine awp_region_e (fun _ => false) (by rw [hB]; rfl) fun K hK base hbase hfr => tr_run ?_
  simp (disch := omega) only [go_sem, ↓reduceIte, za, zb, zc, zd, ze, zf, zg, zh, zi, zj, zk, zl, zm, zn, zo, dec_t, dec_f, ltI, leI, leN, le63, le40, le0, wrap64_id, wrapu64_id, wrap8_id]
  refine tr_nil (hK _ _ _ ?_)
  clear hK K hbase hfr base
  refine then_n ?_
  refine awp_region_k (fun _ => false) (by rw [hB]; rfl) fun K hK base hbase hfr => tr_run ?_
  simp (disch := omega) only [go_sem, ↓reduceIte, za, zb, zc, zd, ze, zf, zg, zh, zi, zj, zk, zl, zm, zn, zo, dec_t, dec_f, ltI, leI, leN, le63, le40, le0, wrap64_id, wrapu64_id, wrap8_id]
  refine tr_nil (hK _ _ _ ?_)
  clear hK K hbase hfr base
  refine awp_seq ?_
  refine awp_region_k (fun _ => false) (by rw [hB]; rfl) fun K hK base hbase hfr => tr_run ?_
  simp (disch := omega) only [go_sem, ↓reduceIte, za, zb, zc, zd, ze, zf, zg, zh, zi, zj, zk, zl, zm, zn, zo, dec_t, dec_f, ltI, leI, leN, le63, le40, le0, wrap64_id, wrapu64_id, wrap8_id]
  refine tr_nil (hK _ _ _ ?_)
  clear hK K hbase hfr base
  refine awp_cond (rfl) (fun h2 => ?_) (fun h2 => ?_)
  · try simp only [yb, yc, yd, ye, yf, yg, yh, yi, yj, yk, yl, ym, yn, yo] at h2
    refine awp_region_e (fun _ => false) (by rw [hB]; rfl) fun K hK base hbase hfr => tr_run ?_
    simp (disch := omega) only [go_sem, ↓reduceIte, za, zb, zc, zd, ze, zf, zg, zh, zi, zj, zk, zl, zm, zn, zo, dec_t, dec_f, ltI, leI, leN, le63, le40, le0, wrap64_id, wrapu64_id, wrap8_id]
    refine tr_nil (hK _ _ _ ?_)
    clear hK K hbase hfr base
    refine then_n ?_
    refine awp_region_k (fun _ => false) (by rw [hB]; rfl) fun K hK base hbase hfr => tr_run ?_
    simp (disch := omega) only [go_sem, ↓reduceIte, za, zb, zc, zd, ze, zf, zg, zh, zi, zj, zk, zl, zm, zn, zo, dec_t, dec_f, ltI, leI, leN, le63, le40, le0, wrap64_id, wrapu64_id, wrap8_id]
    refine tr_nil (hK _ _ _ ?_)
    clear hK K hbase hfr base
    refine awp_ret ?_
    refine ⟨_, rfl, ?_, fun _ _ h => h, fun _ h => h⟩
    rw [show mBoth a b = ⟨b.d, b.q, b.b, b.c⟩ by unfold mBoth; rw [if_pos hT, if_pos (by omega)]]; exact VW.refl _
  · try simp only [yb, yc, yd, ye, yf, yg, yh, yi, yj, yk, yl, ym, yn, yo] at h2
    refine awp_skip ?_
    refine then_n ?_
    refine awp_region_k (fun _ => false) (by rw [hB]; rfl) fun K hK base hbase hfr => tr_run ?_
    simp (disch := omega) only [go_sem, ↓reduceIte, za, zb, zc, zd, ze, zf, zg, zh, zi, zj, zk, zl, zm, zn, zo, dec_t, dec_f, ltI, leI, leN, le63, le40, le0, wrap64_id, wrapu64_id, wrap8_id]
    refine tr_nil (hK _ _ _ ?_)
    clear hK K hbase hfr base
    refine awp_ret ?_
    refine ⟨_, rfl, ?_, fun _ _ h => h, fun _ h => h⟩
    rw [show mBoth a b = ⟨b.d, b.q, b.b, a.c⟩ by unfold mBoth; rw [if_pos hT, if_neg (by omega)]]; exact VW.refl _
theorem c109w (a b : Msg) (g0 : Op.bytesLess b.q a.q = false) (g1 : (b.q == a.q) = true) (g2 : Op.bytesLess b.b a.b = false) : PCalls Go.Proofs.Tryz.prog 109 [msgV a, msgV b] (msgV (mBoth a b)) := by
  have hT : mTake a b = false := by unfold mTake; simp only [g0, g1, g2]; rfl
  refine pcalls_of_awp Go.Proofs.Tryz.func109 rfl (by decide) (Nat.le_of_ble_eq_true rfl) ?_
  intro B σ hB ho hob
  refine awp_region_k (fun _ => false) (by rw [hB]; rfl) fun K hK base hbase hfr => tr_run ?_
  simp (disch := omega) only [go_sem, ↓reduceIte, za, zb, zc, zd, ze, zf, zg, zh, zi, zj, zk, zl, zm, zn, zo, dec_t, dec_f, ltI, leI, leN, le63, le40, le0, wrap64_id, wrapu64_id, wrap8_id]
  refine tr_nil (hK _ _ _ ?_)
  clear hK K hbase hfr base
  refine awp_region_k (fun _ => false) (by rw [hB]; rfl) fun K hK base hbase hfr => tr_run ?_
  simp (disch := omega) only [go_sem, ↓reduceIte, za, zb, zc, zd, ze, zf, zg, zh, zi, zj, zk, zl, zm, zn, zo, dec_t, dec_f, ltI, leI, leN, le63, le40, le0, wrap64_id, wrapu64_id, wrap8_id]
  refine tr_nil (hK _ _ _ ?_)
  clear hK K hbase hfr base
  refine awp_seq ?_
  refine awp_region_k (fun _ => false) (by rw [hB]; rfl) fun K hK base hbase hfr => tr_run ?_
  simp (disch := omega) only [go_sem, ↓reduceIte, za, zb, zc, zd, ze, zf, zg, zh, zi, zj, zk, zl, zm, zn, zo, g0, g1, g2, dec_t, dec_f, ltI, leI, leN, le63, le40, le0, wrap64_id, wrapu64_id, wrap8_id]
  refine tr_nil (hK _ _ _ ?_)
  clear hK K hbase hfr base
  refine awp_cond (rfl) (fun h1 => by cases h1) (fun h1 => ?_)
  refine awp_skip ?_
  refine then_n ?_
  refine awp_region_k (fun _ => false) (by rw [hB]; rfl) fun K hK base hbase hfr => tr_run ?_
  simp (disch := omega) only [go_sem, ↓reduceIte, za, zb, zc, zd, ze, zf, zg, zh, zi, zj, zk, zl, zm, zn, zo, dec_t, dec_f, ltI, leI, leN, le63, le40, le0, wrap64_id, wrapu64_id, wrap8_id]
  refine tr_nil (hK _ _ _ ?_)
  clear hK K hbase hfr base
  refine awp_seq ?_
  refine awp_region_k (fun _ => false) (by rw [hB]; rfl) fun K hK base hbase hfr => tr_run ?_
  simp (disch := omega) only [go_sem, ↓reduceIte, za, zb, zc, zd, ze, zf, zg, zh, zi, zj, zk, zl, zm, zn, zo, dec_t, dec_f, ltI, leI, leN, le63, le40, le0, wrap64_id, wrapu64_id, wrap8_id]
  refine tr_nil (hK _ _ _ ?_)
  clear hK K hbase hfr base
  refine awp_cond (rfl) (fun h2 => ?_) (fun h2 => ?_)
  · try simp only [yb, yc, yd, ye, yf, yg, yh, yi, yj, yk, yl, ym, yn, yo] at h2
    refine awp_region_e (fun _ => false) (by rw [hB]; rfl) fun K hK base hbase hfr => tr_run ?_
    simp (disch := omega) only [go_sem, ↓reduceIte, za, zb, zc, zd, ze, zf, zg, zh, zi, zj, zk, zl, zm, zn, zo, dec_t, dec_f, ltI, leI, leN, le63, le40, le0, wrap64_id, wrapu64_id, wrap8_id]
    refine tr_nil (hK _ _ _ ?_)
    clear hK K hbase hfr base
    refine then_n ?_
    refine awp_region_k (fun _ => false) (by rw [hB]; rfl) fun K hK base hbase hfr => tr_run ?_
    simp (disch := omega) only [go_sem, ↓reduceIte, za, zb, zc, zd, ze, zf, zg, zh, zi, zj, zk, zl, zm, zn, zo, dec_t, dec_f, ltI, leI, leN, le63, le40, le0, wrap64_id, wrapu64_id, wrap8_id]
    refine tr_nil (hK _ _ _ ?_)
    clear hK K hbase hfr base
    refine awp_ret ?_
    refine ⟨_, rfl, ?_, fun _ _ h => h, fun _ h => h⟩
    rw [show mBoth a b = ⟨a.d, a.q, a.b, b.c⟩ by unfold mBoth; rw [if_neg (by rw [hT]; decide), if_pos (by omega)]]; exact VW.refl _
  · try simp only [yb, yc, yd, ye, yf, yg, yh, yi, yj, yk, yl, ym, yn, yo] at h2
    refine awp_skip ?_
    refine then_n ?_
    refine awp_region_k (fun _ => false) (by rw [hB]; rfl) fun K hK base hbase hfr => tr_run ?_
    simp (disch := omega) only [go_sem, ↓reduceIte, za, zb, zc, zd, ze, zf, zg, zh, zi, zj, zk, zl, zm, zn, zo, dec_t, dec_f, ltI, leI, leN, le63, le40, le0, wrap64_id, wrapu64_id, wrap8_id]
    refine tr_nil (hK _ _ _ ?_)
    clear hK K hbase hfr base
    refine awp_ret ?_
    refine ⟨_, rfl, ?_, fun _ _ h => h, fun _ h => h⟩
    rw [show mBoth a b = ⟨a.d, a.q, a.b, a.c⟩ by unfold mBoth; rw [if_neg (by rw [hT]; decide), if_neg (by omega)]]; exact VW.refl _
theorem c109 (a b : Msg) : PCalls Go.Proofs.Tryz.prog 109 [msgV a, msgV b] (msgV (mBoth a b)) := by
  rcases g0 : Op.bytesLess b.q a.q with _ | _
  · rcases g1 : (b.q == a.q) with _ | _
    · exact c109y a b g0 g1
    · rcases g2 : Op.bytesLess b.b a.b with _ | _
      · exact c109w a b g0 g1 g2
      · exact c109z a b g0 g1 g2
  · exact c109x a b g0
end Go.Am
