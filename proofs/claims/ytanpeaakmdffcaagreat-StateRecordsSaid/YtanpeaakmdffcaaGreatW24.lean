/- What functions of this program compute, a part: see the main text. No conditions. -/
import Derived.Test.YtanpeaakmdffcaaGreatW23
set_option linter.all false
set_option maxRecDepth 100000
namespace Go.Am
open Go
open Nat renaming reduceEqDiff → za, reduceAdd → zb, reduceMul → zc, reducePow → zd, reduceLeDiff → ze, reduceSub → zf, reduceBEq → zg, reduceBNe → zh, reduceDiv → zi, reduceMod → zj
open Int renaming reduceLT → zk, reduceLE → zl, reduceEq → zm, reduceNe → zn, reduceToNat → zo

def M40 : Int := 1099511627776
structure Sok (s : St) : Prop where
  len : s.bags.length = 16
  bags : ∀ b ∈ s.bags, Cok b.ctx ∧ b.live.length ≤ 500000
  tags : s.tags.length ≤ 100000
  view : s.view.length ≤ 100000
def dI (s : St) (r : Rd) : St × Int :=
  if rEnd (rInt 1099511627776 r).2 ≠ 0 ∨ (rInt 1099511627776 r).1 < 1 then (s, 10) else if s.id ≠ 0 ∧ s.id ≠ (rInt 1099511627776 r).1 then (s, 13) else ({ s with id := (rInt 1099511627776 r).1 }, 0)
def dR (s : St) (r : Rd) : St × Int :=
  if rEnd (rInt 1099511627776 r).2 ≠ 0 ∨ (rInt 1099511627776 r).1 < 1 then (s, 10) else if s.upto < (rInt 1099511627776 r).1 then ({ s with upto := (rInt 1099511627776 r).1 }, 0) else (s, 0)
def dB (s : St) (r : Rd) : St × Int :=
  if rEnd (rBag (rInt 15 r).2).2 ≠ 0 then (s, 10) else ({ s with bags := s.bags.set (rInt 15 r).1.toNat (bJoin (s.bags.getD (rInt 15 r).1.toNat bag0) (rBag (rInt 15 r).2).1) }, 0)
def dN (s : St) (r : Rd) : St × Int := if rEnd (rdL rTag tCheck 100 r).2 ≠ 0 then (s, 10) else ({ s with tags := nJoin s.tags (rdL rTag tCheck 100 r).1 }, 0)
def dV (s : St) (r : Rd) : St × Int := if rEnd (rdL rPeer pCheck 64 r).2 ≠ 0 then (s, 10) else ({ s with view := pJoin s.view (rdL rPeer pCheck 64 r).1 }, 0)
def dH (s : St) (r : Rd) : St × Int := if rEnd (rdL rHold hCheck 1000 r).2 ≠ 0 then (s, 10) else ({ s with holds := (rdL rHold hCheck 1000 r).1 }, 0)
def dApply (s : St) : List UInt8 → St × Int
  | [] => (s, 10)
  | m :: l => if m = 73 then dI s ⟨l, false⟩ else if m = 82 then dR s ⟨l, false⟩ else if m = 66 then dB s ⟨l, false⟩ else if m = 78 then dN s ⟨l, false⟩ else if m = 86 then dV s ⟨l, false⟩ else if m = 72 then dH s ⟨l, false⟩ else (s, 10)
set_option maxHeartbeats 4000000 in
theorem c16c (σ : Sh) (oid : Nat) (s : St) (m : UInt8) (l : List UInt8) (hs : Sok s) (hσ : σ.ob oid = some (.cells (stV s))) : WCalls Go.Proofs.Tryz.prog 16 [.ptr oid 0, .str (m :: l)] σ (.int .i64 (dApply s (m :: l)).2) (σ.setOb oid (.cells (stV (dApply s (m :: l)).1))) := by
  have hb := hs.len
  have hlt : ∀ n, σ.ob n = none → oid ≠ n := fun n hn e => by rw [e, hn] at hσ; cases hσ
  obtain ⟨p0, p1⟩ := rInt_le 15 (⟨l, false⟩ : Rd) (by decide)
  refine wcalls_of_awp Go.Proofs.Tryz.func16 rfl (by decide) (Nat.le_of_ble_eq_true rfl) ?_
  intro B hB ho hob
  refine awp_region_k (fun k => k == 18) (by rw [hB]; rfl) fun K hK base hbase hfr => ?_
  refine tr_run ?_
  simp (disch := omega) only [go_sem, ↓reduceIte, za, zb, zc, zd, ze, zf, zg, zh, zi, zj, zk, zl, zm, zn, zo, setOb_ne, dec_t, dec_f, ltI, leI, leN, le63, le40, le0, wrap64_id, wrapu64_id, wrap8_id]
  refine tr_nil (hK _ _ _ ?_)
  clear hK K hbase hfr base
  refine awp_seq ?_
  refine awp_region_k (fun k => k == 18) (by rw [hB]; rfl) fun K hK base hbase hfr => ?_
  refine tr_run ?_
  simp (disch := omega) only [go_sem, ↓reduceIte, za, zb, zc, zd, ze, zf, zg, zh, zi, zj, zk, zl, zm, zn, zo, setOb_ne, bcn, dec_t, dec_f, ltI, leI, leN, le63, le40, le0, wrap64_id, wrapu64_id, wrap8_id]
  refine tr_nil (hK _ _ _ ?_)
  clear hK K hbase hfr base
  refine awp_cond (rfl) (fun h1 => by cases h1) (fun h1 => ?_)
  refine awp_skip ?_
  refine then_n ?_
  refine awp_region_k (fun k => k == 18) (by rw [hB]; rfl) fun K hK base hbase hfr => ?_
  refine tr_run ?_
  simp (disch := omega) only [go_sem, ↓reduceIte, za, zb, zc, zd, ze, zf, zg, zh, zi, zj, zk, zl, zm, zn, zo, setOb_ne, dec_t, dec_f, ltI, leI, leN, le63, le40, le0, wrap64_id, wrapu64_id, wrap8_id]
  refine tr_nil (hK _ _ _ ?_)
  clear hK K hfr
  obtain ⟨rid, hrid, hre⟩ : ∃ rid, B.g.nt ≤ rid ∧ base + 3 = rid := ⟨_, by omega, rfl⟩
  rw [hre]
  clear hre hbase base
  have hne : oid ≠ rid := hlt _ (hob _ hrid)
  refine awp_seq ?_
  refine awp_region_k (fun k => k == 18) (by rw [hB]; rfl) fun K hK base hbase hfr => ?_
  refine tr_run ?_
  simp (disch := omega) only [go_sem, ↓reduceIte, za, zb, zc, zd, ze, zf, zg, zh, zi, zj, zk, zl, zm, zn, zo, setOb_ne, dec_t, dec_f, ltI, leI, leN, le63, le40, le0, wrap64_id, wrapu64_id, wrap8_id]
  refine tr_nil (hK _ _ _ ?_)
  clear hK K hbase hfr base
  refine awp_block ?_
  refine awp_region_k (fun k => k == 18) (by rw [hB]; rfl) fun K hK base hbase hfr => ?_
  refine tr_run ?_
  simp (disch := omega) only [go_sem, ↓reduceIte, za, zb, zc, zd, ze, zf, zg, zh, zi, zj, zk, zl, zm, zn, zo, setOb_ne, bc1, dec_t, dec_f, ltI, leI, leN, le63, le40, le0, wrap64_id, wrapu64_id, wrap8_id]
  refine tr_nil (hK _ _ _ ?_)
  clear hK K hbase hfr base
  refine awp_cond (rfl) (fun h2 => ?_) (fun h2 => ?_)
  · try simp only [yb, yc, yd, ye, yf, yg, yh, yi, yj, yk, yl, ym, yn, yo] at h2
    refine awp_region_k (fun k => k == 18) (by rw [hB]; rfl) fun K hK base hbase hfr => ?_
    refine tr_run ?_
    simp (disch := omega) only [go_sem, ↓reduceIte, za, zb, zc, zd, ze, zf, zg, zh, zi, zj, zk, zl, zm, zn, zo, setOb_ne, dec_t, dec_f, ltI, leI, leN, le63, le40, le0, wrap64_id, wrapu64_id, wrap8_id]
    refine tr_wc (by rfl) (by simp only [go_sem, ↓reduceIte, za, zb, zc, zd, ze, zf, zg, zh, zi, zj, zk, zl, zm, zn, zo, setOb_ne] <;> rfl) (c45 _ rid (⟨l, false⟩ : Rd) _ (by decide) (by unfold I63; decide) (setOb_same _ _ _)) ?_
    simp (disch := omega) only [go_sem, ↓reduceIte, za, zb, zc, zd, ze, zf, zg, zh, zi, zj, zk, zl, zm, zn, zo, setOb_ne, dec_t, dec_f, ltI, leI, leN, le63, le40, le0, wrap64_id, wrapu64_id, wrap8_id]
    refine tr_nil (hK _ _ _ ?_)
    clear hK K hbase hfr base
    refine awp_seq ?_
    refine awp_region_k (fun k => k == 18) (by rw [hB]; rfl) fun K hK base hbase hfr => ?_
    rcases q3 : (rEnd (rInt 1099511627776 (⟨l, false⟩ : Rd)).2 != 0) with _ | _
    · skip
      refine tr_run ?_
      simp (disch := omega) only [go_sem, ↓reduceIte, za, zb, zc, zd, ze, zf, zg, zh, zi, zj, zk, zl, zm, zn, zo, setOb_ne, q3, dec_t, dec_f, ltI, leI, leN, le63, le40, le0, wrap64_id, wrapu64_id, wrap8_id]
      refine tr_wc (by rfl) (by simp only [go_sem, ↓reduceIte, za, zb, zc, zd, ze, zf, zg, zh, zi, zj, zk, zl, zm, zn, zo, setOb_ne, q3] <;> rfl) (c46 _ rid (rInt 1099511627776 (⟨l, false⟩ : Rd)).2 (setOb_same _ _ _)) ?_
      simp (disch := omega) only [go_sem, ↓reduceIte, za, zb, zc, zd, ze, zf, zg, zh, zi, zj, zk, zl, zm, zn, zo, setOb_ne, q3, dec_t, dec_f, ltI, leI, leN, le63, le40, le0, wrap64_id, wrapu64_id, wrap8_id]
      refine tr_nil (hK _ _ _ ?_)
      clear hK K hbase hfr base
      try simp only [yb, yc, yd, ye, yf, yg, yh, yi, yj, yk, yl, ym, yn, yo] at q3
      refine awp_cond (rfl) (fun h4 => ?_) (fun h4 => ?_)
      · try simp only [yb, yc, yd, ye, yf, yg, yh, yi, yj, yk, yl, ym, yn, yo] at h4
        refine awp_region_k (fun k => k == 18) (by rw [hB]; rfl) fun K hK base hbase hfr => ?_
        refine tr_run ?_
        simp (disch := omega) only [go_sem, ↓reduceIte, za, zb, zc, zd, ze, zf, zg, zh, zi, zj, zk, zl, zm, zn, zo, setOb_ne, dec_t, dec_f, ltI, leI, leN, le63, le40, le0, wrap64_id, wrapu64_id, wrap8_id]
        refine tr_nil (hK _ _ _ ?_)
        clear hK K hbase hfr base
        refine awp_ret ?_
        refine then_r ?_
        refine block_r ?_
        refine then_r ?_
        have e : dApply s (m :: l) = (s, 10) := by rw [dApply, if_pos (by assumption), dI, if_pos (.inr (by omega))]
        rw [e]
        exact ⟨_, rfl, VW.refl _, (obs_r hσ (hob _ hrid)), fun _ h => h⟩
      · try simp only [yb, yc, yd, ye, yf, yg, yh, yi, yj, yk, yl, ym, yn, yo] at h4
        refine awp_skip ?_
        refine then_n ?_
        refine awp_seq ?_
        refine awp_region_k (fun k => k == 18) (by rw [hB]; rfl) fun K hK base hbase hfr => ?_
        rcases q5 : (s.id != 0) with _ | _
        · skip
          refine tr_run ?_
          simp (disch := omega) only [go_sem, ↓reduceIte, za, zb, zc, zd, ze, zf, zg, zh, zi, zj, zk, zl, zm, zn, zo, setOb_ne, hσ, hne, q5, dec_t, dec_f, ltI, leI, leN, le63, le40, le0, wrap64_id, wrapu64_id, wrap8_id]
          refine tr_nil (hK _ _ _ ?_)
          clear hK K hbase hfr base
          try simp only [yb, yc, yd, ye, yf, yg, yh, yi, yj, yk, yl, ym, yn, yo] at q5
          refine awp_cond (rfl) (fun h6 => by cases h6) (fun h6 => ?_)
          refine awp_skip ?_
          refine then_n ?_
          refine awp_region_e (fun k => k == 18) (by rw [hB]; rfl) fun K hK base hbase hfr => ?_
          refine tr_run ?_
          simp (disch := omega) only [go_sem, ↓reduceIte, za, zb, zc, zd, ze, zf, zg, zh, zi, zj, zk, zl, zm, zn, zo, setOb_ne, hσ, hne, dec_t, dec_f, ltI, leI, leN, le63, le40, le0, wrap64_id, wrapu64_id, wrap8_id]
          refine tr_nil (hK _ _ _ ?_)
          clear hK K hbase hfr base
          refine block_n ?_
          refine then_n ?_
          refine awp_region_k (fun k => k == 18) (by rw [hB]; rfl) fun K hK base hbase hfr => ?_
          refine tr_run ?_
          simp (disch := omega) only [go_sem, ↓reduceIte, za, zb, zc, zd, ze, zf, zg, zh, zi, zj, zk, zl, zm, zn, zo, setOb_ne, dec_t, dec_f, ltI, leI, leN, le63, le40, le0, wrap64_id, wrapu64_id, wrap8_id]
          refine tr_nil (hK _ _ _ ?_)
          clear hK K hbase hfr base
          refine awp_ret ?_
          have e : dApply s (m :: l) = ({ s with id := (rInt 1099511627776 (⟨l, false⟩ : Rd)).1 }, 0) := by rw [dApply, if_pos (by assumption), dI, if_neg (by omega), if_neg (by omega)]
          rw [e]
          exact ⟨_, rfl, VW.refl _, (obs_s (fun h => hne h.symm) (hob _ hrid)), fun _ h => h⟩
        · skip
          refine tr_run ?_
          simp (disch := omega) only [go_sem, ↓reduceIte, za, zb, zc, zd, ze, zf, zg, zh, zi, zj, zk, zl, zm, zn, zo, setOb_ne, hσ, hne, q5, dec_t, dec_f, ltI, leI, leN, le63, le40, le0, wrap64_id, wrapu64_id, wrap8_id]
          refine tr_nil (hK _ _ _ ?_)
          clear hK K hbase hfr base
          try simp only [yb, yc, yd, ye, yf, yg, yh, yi, yj, yk, yl, ym, yn, yo] at q5
          refine awp_cond (rfl) (fun h7 => ?_) (fun h7 => ?_)
          · try simp only [yb, yc, yd, ye, yf, yg, yh, yi, yj, yk, yl, ym, yn, yo] at h7
            refine awp_region_k (fun k => k == 18) (by rw [hB]; rfl) fun K hK base hbase hfr => ?_
            refine tr_run ?_
            simp (disch := omega) only [go_sem, ↓reduceIte, za, zb, zc, zd, ze, zf, zg, zh, zi, zj, zk, zl, zm, zn, zo, setOb_ne, dec_t, dec_f, ltI, leI, leN, le63, le40, le0, wrap64_id, wrapu64_id, wrap8_id]
            refine tr_nil (hK _ _ _ ?_)
            clear hK K hbase hfr base
            refine awp_ret ?_
            refine then_r ?_
            refine block_r ?_
            refine then_r ?_
            have e : dApply s (m :: l) = (s, 13) := by rw [dApply, if_pos (by assumption), dI, if_neg (by omega), if_pos (by omega)]
            rw [e]
            exact ⟨_, rfl, VW.refl _, (obs_r hσ (hob _ hrid)), fun _ h => h⟩
          · try simp only [yb, yc, yd, ye, yf, yg, yh, yi, yj, yk, yl, ym, yn, yo] at h7
            refine awp_skip ?_
            refine then_n ?_
            refine awp_region_e (fun k => k == 18) (by rw [hB]; rfl) fun K hK base hbase hfr => ?_
            refine tr_run ?_
            simp (disch := omega) only [go_sem, ↓reduceIte, za, zb, zc, zd, ze, zf, zg, zh, zi, zj, zk, zl, zm, zn, zo, setOb_ne, hσ, hne, dec_t, dec_f, ltI, leI, leN, le63, le40, le0, wrap64_id, wrapu64_id, wrap8_id]
            refine tr_nil (hK _ _ _ ?_)
            clear hK K hbase hfr base
            refine block_n ?_
            refine then_n ?_
            refine awp_region_k (fun k => k == 18) (by rw [hB]; rfl) fun K hK base hbase hfr => ?_
            refine tr_run ?_
            simp (disch := omega) only [go_sem, ↓reduceIte, za, zb, zc, zd, ze, zf, zg, zh, zi, zj, zk, zl, zm, zn, zo, setOb_ne, dec_t, dec_f, ltI, leI, leN, le63, le40, le0, wrap64_id, wrapu64_id, wrap8_id]
            refine tr_nil (hK _ _ _ ?_)
            clear hK K hbase hfr base
            refine awp_ret ?_
            have e : dApply s (m :: l) = ({ s with id := (rInt 1099511627776 (⟨l, false⟩ : Rd)).1 }, 0) := by rw [dApply, if_pos (by assumption), dI, if_neg (by omega), if_neg (by omega)]
            rw [e]
            exact ⟨_, rfl, VW.refl _, (obs_s (fun h => hne h.symm) (hob _ hrid)), fun _ h => h⟩
    · skip
      refine tr_run ?_
      simp (disch := omega) only [go_sem, ↓reduceIte, za, zb, zc, zd, ze, zf, zg, zh, zi, zj, zk, zl, zm, zn, zo, setOb_ne, q3, dec_t, dec_f, ltI, leI, leN, le63, le40, le0, wrap64_id, wrapu64_id, wrap8_id]
      refine tr_wc (by rfl) (by simp only [go_sem, ↓reduceIte, za, zb, zc, zd, ze, zf, zg, zh, zi, zj, zk, zl, zm, zn, zo, setOb_ne, q3] <;> rfl) (c46 _ rid (rInt 1099511627776 (⟨l, false⟩ : Rd)).2 (setOb_same _ _ _)) ?_
      simp (disch := omega) only [go_sem, ↓reduceIte, za, zb, zc, zd, ze, zf, zg, zh, zi, zj, zk, zl, zm, zn, zo, setOb_ne, q3, dec_t, dec_f, ltI, leI, leN, le63, le40, le0, wrap64_id, wrapu64_id, wrap8_id]
      refine tr_nil (hK _ _ _ ?_)
      clear hK K hbase hfr base
      try simp only [yb, yc, yd, ye, yf, yg, yh, yi, yj, yk, yl, ym, yn, yo] at q3
      refine awp_cond (rfl) (fun h8 => ?_) (fun h8 => by cases h8)
      refine awp_region_k (fun k => k == 18) (by rw [hB]; rfl) fun K hK base hbase hfr => ?_
      refine tr_run ?_
      simp (disch := omega) only [go_sem, ↓reduceIte, za, zb, zc, zd, ze, zf, zg, zh, zi, zj, zk, zl, zm, zn, zo, setOb_ne, dec_t, dec_f, ltI, leI, leN, le63, le40, le0, wrap64_id, wrapu64_id, wrap8_id]
      refine tr_nil (hK _ _ _ ?_)
      clear hK K hbase hfr base
      refine awp_ret ?_
      refine then_r ?_
      refine block_r ?_
      refine then_r ?_
      have e : dApply s (m :: l) = (s, 10) := by rw [dApply, if_pos (by assumption), dI, if_pos (.inl (by assumption))]
      rw [e]
      exact ⟨_, rfl, VW.refl _, (obs_r hσ (hob _ hrid)), fun _ h => h⟩
  · try simp only [yb, yc, yd, ye, yf, yg, yh, yi, yj, yk, yl, ym, yn, yo] at h2
    refine awp_region_k (fun k => k == 18) (by rw [hB]; rfl) fun K hK base hbase hfr => ?_
    refine tr_run ?_
    simp (disch := omega) only [go_sem, ↓reduceIte, za, zb, zc, zd, ze, zf, zg, zh, zi, zj, zk, zl, zm, zn, zo, setOb_ne, bc1, dec_t, dec_f, ltI, leI, leN, le63, le40, le0, wrap64_id, wrapu64_id, wrap8_id]
    refine tr_nil (hK _ _ _ ?_)
    clear hK K hbase hfr base
    refine awp_cond (rfl) (fun h9 => ?_) (fun h9 => ?_)
    · try simp only [yb, yc, yd, ye, yf, yg, yh, yi, yj, yk, yl, ym, yn, yo] at h9
      refine awp_region_k (fun k => k == 18) (by rw [hB]; rfl) fun K hK base hbase hfr => ?_
      refine tr_run ?_
      simp (disch := omega) only [go_sem, ↓reduceIte, za, zb, zc, zd, ze, zf, zg, zh, zi, zj, zk, zl, zm, zn, zo, setOb_ne, dec_t, dec_f, ltI, leI, leN, le63, le40, le0, wrap64_id, wrapu64_id, wrap8_id]
      refine tr_wc (by rfl) (by simp only [go_sem, ↓reduceIte, za, zb, zc, zd, ze, zf, zg, zh, zi, zj, zk, zl, zm, zn, zo, setOb_ne] <;> rfl) (c45 _ rid (⟨l, false⟩ : Rd) _ (by decide) (by unfold I63; decide) (setOb_same _ _ _)) ?_
      simp (disch := omega) only [go_sem, ↓reduceIte, za, zb, zc, zd, ze, zf, zg, zh, zi, zj, zk, zl, zm, zn, zo, setOb_ne, dec_t, dec_f, ltI, leI, leN, le63, le40, le0, wrap64_id, wrapu64_id, wrap8_id]
      refine tr_nil (hK _ _ _ ?_)
      clear hK K hbase hfr base
      refine awp_seq ?_
      refine awp_region_k (fun k => k == 18) (by rw [hB]; rfl) fun K hK base hbase hfr => ?_
      rcases q10 : (rEnd (rInt 1099511627776 (⟨l, false⟩ : Rd)).2 != 0) with _ | _
      · skip
        refine tr_run ?_
        simp (disch := omega) only [go_sem, ↓reduceIte, za, zb, zc, zd, ze, zf, zg, zh, zi, zj, zk, zl, zm, zn, zo, setOb_ne, q10, dec_t, dec_f, ltI, leI, leN, le63, le40, le0, wrap64_id, wrapu64_id, wrap8_id]
        refine tr_wc (by rfl) (by simp only [go_sem, ↓reduceIte, za, zb, zc, zd, ze, zf, zg, zh, zi, zj, zk, zl, zm, zn, zo, setOb_ne, q10] <;> rfl) (c46 _ rid (rInt 1099511627776 (⟨l, false⟩ : Rd)).2 (setOb_same _ _ _)) ?_
        simp (disch := omega) only [go_sem, ↓reduceIte, za, zb, zc, zd, ze, zf, zg, zh, zi, zj, zk, zl, zm, zn, zo, setOb_ne, q10, dec_t, dec_f, ltI, leI, leN, le63, le40, le0, wrap64_id, wrapu64_id, wrap8_id]
        refine tr_nil (hK _ _ _ ?_)
        clear hK K hbase hfr base
        try simp only [yb, yc, yd, ye, yf, yg, yh, yi, yj, yk, yl, ym, yn, yo] at q10
        refine awp_cond (rfl) (fun h11 => ?_) (fun h11 => ?_)
        · try simp only [yb, yc, yd, ye, yf, yg, yh, yi, yj, yk, yl, ym, yn, yo] at h11
          refine awp_region_k (fun k => k == 18) (by rw [hB]; rfl) fun K hK base hbase hfr => ?_
          refine tr_run ?_
          simp (disch := omega) only [go_sem, ↓reduceIte, za, zb, zc, zd, ze, zf, zg, zh, zi, zj, zk, zl, zm, zn, zo, setOb_ne, dec_t, dec_f, ltI, leI, leN, le63, le40, le0, wrap64_id, wrapu64_id, wrap8_id]
          refine tr_nil (hK _ _ _ ?_)
          clear hK K hbase hfr base
          refine awp_ret ?_
          refine then_r ?_
          refine block_r ?_
          refine then_r ?_
          have e : dApply s (m :: l) = (s, 10) := by rw [dApply, if_neg (by assumption), if_pos (by assumption), dR, if_pos (.inr (by omega))]
          rw [e]
          exact ⟨_, rfl, VW.refl _, (obs_r hσ (hob _ hrid)), fun _ h => h⟩
        · try simp only [yb, yc, yd, ye, yf, yg, yh, yi, yj, yk, yl, ym, yn, yo] at h11
          refine awp_skip ?_
          refine then_n ?_
          refine awp_region_k (fun k => k == 18) (by rw [hB]; rfl) fun K hK base hbase hfr => ?_
          refine tr_run ?_
          simp (disch := omega) only [go_sem, ↓reduceIte, za, zb, zc, zd, ze, zf, zg, zh, zi, zj, zk, zl, zm, zn, zo, setOb_ne, hσ, hne, dec_t, dec_f, ltI, leI, leN, le63, le40, le0, wrap64_id, wrapu64_id, wrap8_id]
          refine tr_nil (hK _ _ _ ?_)
          clear hK K hbase hfr base
          refine awp_cond (rfl) (fun h12 => ?_) (fun h12 => ?_)
          · try simp only [yb, yc, yd, ye, yf, yg, yh, yi, yj, yk, yl, ym, yn, yo] at h12
            refine awp_region_e (fun k => k == 18) (by rw [hB]; rfl) fun K hK base hbase hfr => ?_
            refine tr_run ?_
            simp (disch := omega) only [go_sem, ↓reduceIte, za, zb, zc, zd, ze, zf, zg, zh, zi, zj, zk, zl, zm, zn, zo, setOb_ne, hσ, hne, dec_t, dec_f, ltI, leI, leN, le63, le40, le0, wrap64_id, wrapu64_id, wrap8_id]
            refine tr_nil (hK _ _ _ ?_)
            clear hK K hbase hfr base
            refine block_n ?_
            refine then_n ?_
            refine awp_region_k (fun k => k == 18) (by rw [hB]; rfl) fun K hK base hbase hfr => ?_
            refine tr_run ?_
            simp (disch := omega) only [go_sem, ↓reduceIte, za, zb, zc, zd, ze, zf, zg, zh, zi, zj, zk, zl, zm, zn, zo, setOb_ne, dec_t, dec_f, ltI, leI, leN, le63, le40, le0, wrap64_id, wrapu64_id, wrap8_id]
            refine tr_nil (hK _ _ _ ?_)
            clear hK K hbase hfr base
            refine awp_ret ?_
            have e : dApply s (m :: l) = ({ s with upto := (rInt 1099511627776 (⟨l, false⟩ : Rd)).1 }, 0) := by rw [dApply, if_neg (by assumption), if_pos (by assumption), dR, if_neg (by omega), if_pos (by omega)]
            rw [e]
            exact ⟨_, rfl, VW.refl _, (obs_s (fun h => hne h.symm) (hob _ hrid)), fun _ h => h⟩
          · try simp only [yb, yc, yd, ye, yf, yg, yh, yi, yj, yk, yl, ym, yn, yo] at h12
            refine awp_skip ?_
            refine block_n ?_
            refine then_n ?_
            refine awp_region_k (fun k => k == 18) (by rw [hB]; rfl) fun K hK base hbase hfr => ?_
            refine tr_run ?_
            simp (disch := omega) only [go_sem, ↓reduceIte, za, zb, zc, zd, ze, zf, zg, zh, zi, zj, zk, zl, zm, zn, zo, setOb_ne, dec_t, dec_f, ltI, leI, leN, le63, le40, le0, wrap64_id, wrapu64_id, wrap8_id]
            refine tr_nil (hK _ _ _ ?_)
            clear hK K hbase hfr base
            refine awp_ret ?_
            have e : dApply s (m :: l) = (s, 0) := by rw [dApply, if_neg (by assumption), if_pos (by assumption), dR, if_neg (by omega), if_neg (by omega)]
            rw [e]
            exact ⟨_, rfl, VW.refl _, (obs_r hσ (hob _ hrid)), fun _ h => h⟩
      · skip
        refine tr_run ?_
        simp (disch := omega) only [go_sem, ↓reduceIte, za, zb, zc, zd, ze, zf, zg, zh, zi, zj, zk, zl, zm, zn, zo, setOb_ne, q10, dec_t, dec_f, ltI, leI, leN, le63, le40, le0, wrap64_id, wrapu64_id, wrap8_id]
        refine tr_wc (by rfl) (by simp only [go_sem, ↓reduceIte, za, zb, zc, zd, ze, zf, zg, zh, zi, zj, zk, zl, zm, zn, zo, setOb_ne, q10] <;> rfl) (c46 _ rid (rInt 1099511627776 (⟨l, false⟩ : Rd)).2 (setOb_same _ _ _)) ?_
        simp (disch := omega) only [go_sem, ↓reduceIte, za, zb, zc, zd, ze, zf, zg, zh, zi, zj, zk, zl, zm, zn, zo, setOb_ne, q10, dec_t, dec_f, ltI, leI, leN, le63, le40, le0, wrap64_id, wrapu64_id, wrap8_id]
        refine tr_nil (hK _ _ _ ?_)
        clear hK K hbase hfr base
        try simp only [yb, yc, yd, ye, yf, yg, yh, yi, yj, yk, yl, ym, yn, yo] at q10
        refine awp_cond (rfl) (fun h13 => ?_) (fun h13 => by cases h13)
        refine awp_region_k (fun k => k == 18) (by rw [hB]; rfl) fun K hK base hbase hfr => ?_
        refine tr_run ?_
        simp (disch := omega) only [go_sem, ↓reduceIte, za, zb, zc, zd, ze, zf, zg, zh, zi, zj, zk, zl, zm, zn, zo, setOb_ne, dec_t, dec_f, ltI, leI, leN, le63, le40, le0, wrap64_id, wrapu64_id, wrap8_id]
        refine tr_nil (hK _ _ _ ?_)
        clear hK K hbase hfr base
        refine awp_ret ?_
        refine then_r ?_
        refine block_r ?_
        refine then_r ?_
        have e : dApply s (m :: l) = (s, 10) := by rw [dApply, if_neg (by assumption), if_pos (by assumption), dR, if_pos (.inl (by assumption))]
        rw [e]
        exact ⟨_, rfl, VW.refl _, (obs_r hσ (hob _ hrid)), fun _ h => h⟩
    · try simp only [yb, yc, yd, ye, yf, yg, yh, yi, yj, yk, yl, ym, yn, yo] at h9
      refine awp_region_k (fun k => k == 18) (by rw [hB]; rfl) fun K hK base hbase hfr => ?_
      refine tr_run ?_
      simp (disch := omega) only [go_sem, ↓reduceIte, za, zb, zc, zd, ze, zf, zg, zh, zi, zj, zk, zl, zm, zn, zo, setOb_ne, bc1, dec_t, dec_f, ltI, leI, leN, le63, le40, le0, wrap64_id, wrapu64_id, wrap8_id]
      refine tr_nil (hK _ _ _ ?_)
      clear hK K hbase hfr base
      refine awp_cond (rfl) (fun h14 => ?_) (fun h14 => ?_)
      · try simp only [yb, yc, yd, ye, yf, yg, yh, yi, yj, yk, yl, ym, yn, yo] at h14
        refine awp_region_k (fun k => k == 18) (by rw [hB]; rfl) fun K hK base hbase hfr => ?_
        refine tr_run ?_
        simp (disch := omega) only [go_sem, ↓reduceIte, za, zb, zc, zd, ze, zf, zg, zh, zi, zj, zk, zl, zm, zn, zo, setOb_ne, dec_t, dec_f, ltI, leI, leN, le63, le40, le0, wrap64_id, wrapu64_id, wrap8_id]
        refine tr_wc (by rfl) (by simp only [go_sem, ↓reduceIte, za, zb, zc, zd, ze, zf, zg, zh, zi, zj, zk, zl, zm, zn, zo, setOb_ne] <;> rfl) (c45 _ rid (⟨l, false⟩ : Rd) _ (by decide) (by unfold I63; decide) (setOb_same _ _ _)) ?_
        simp (disch := omega) only [go_sem, ↓reduceIte, za, zb, zc, zd, ze, zf, zg, zh, zi, zj, zk, zl, zm, zn, zo, setOb_ne, dec_t, dec_f, ltI, leI, leN, le63, le40, le0, wrap64_id, wrapu64_id, wrap8_id]
        refine tr_nil (hK _ _ _ ?_)
        clear hK K hbase hfr base
        refine awp_region_k (fun k => k == 18) (by rw [hB]; rfl) fun K hK base hbase hfr => ?_
        refine tr_run ?_
        simp (disch := omega) only [go_sem, ↓reduceIte, za, zb, zc, zd, ze, zf, zg, zh, zi, zj, zk, zl, zm, zn, zo, setOb_ne, dec_t, dec_f, ltI, leI, leN, le63, le40, le0, wrap64_id, wrapu64_id, wrap8_id]
        refine tr_wc (by rfl) (by simp only [go_sem, ↓reduceIte, za, zb, zc, zd, ze, zf, zg, zh, zi, zj, zk, zl, zm, zn, zo, setOb_ne] <;> rfl) (c47 _ rid (rInt 15 (⟨l, false⟩ : Rd)).2 (setOb_same _ _ _)) ?_
        simp (disch := omega) only [go_sem, ↓reduceIte, za, zb, zc, zd, ze, zf, zg, zh, zi, zj, zk, zl, zm, zn, zo, setOb_ne, dec_t, dec_f, ltI, leI, leN, le63, le40, le0, wrap64_id, wrapu64_id, wrap8_id]
        refine tr_nil (hK _ _ _ ?_)
        clear hK K hbase hfr base
        refine awp_seq ?_
        refine awp_region_k (fun k => k == 18) (by rw [hB]; rfl) fun K hK base hbase hfr => ?_
        refine tr_run ?_
        simp (disch := omega) only [go_sem, ↓reduceIte, za, zb, zc, zd, ze, zf, zg, zh, zi, zj, zk, zl, zm, zn, zo, setOb_ne, dec_t, dec_f, ltI, leI, leN, le63, le40, le0, wrap64_id, wrapu64_id, wrap8_id]
        refine tr_wc (by rfl) (by simp only [go_sem, ↓reduceIte, za, zb, zc, zd, ze, zf, zg, zh, zi, zj, zk, zl, zm, zn, zo, setOb_ne] <;> rfl) (c46 _ rid (rBag (rInt 15 (⟨l, false⟩ : Rd)).2).2 (setOb_same _ _ _)) ?_
        simp (disch := omega) only [go_sem, ↓reduceIte, za, zb, zc, zd, ze, zf, zg, zh, zi, zj, zk, zl, zm, zn, zo, setOb_ne, dec_t, dec_f, ltI, leI, leN, le63, le40, le0, wrap64_id, wrapu64_id, wrap8_id]
        refine tr_nil (hK _ _ _ ?_)
        clear hK K hbase hfr base
        refine awp_cond (rfl) (fun h15 => ?_) (fun h15 => ?_)
        · try simp only [yb, yc, yd, ye, yf, yg, yh, yi, yj, yk, yl, ym, yn, yo] at h15
          refine awp_region_k (fun k => k == 18) (by rw [hB]; rfl) fun K hK base hbase hfr => ?_
          refine tr_run ?_
          simp (disch := omega) only [go_sem, ↓reduceIte, za, zb, zc, zd, ze, zf, zg, zh, zi, zj, zk, zl, zm, zn, zo, setOb_ne, dec_t, dec_f, ltI, leI, leN, le63, le40, le0, wrap64_id, wrapu64_id, wrap8_id]
          refine tr_nil (hK _ _ _ ?_)
          clear hK K hbase hfr base
          refine awp_ret ?_
          refine then_r ?_
          refine block_r ?_
          refine then_r ?_
          have e : dApply s (m :: l) = (s, 10) := by rw [dApply, if_neg (by assumption), if_neg (by assumption), if_pos (by assumption), dB, if_pos (by omega)]
          rw [e]
          exact ⟨_, rfl, VW.refl _, (obs_r hσ (hob _ hrid)), fun _ h => h⟩
        · try simp only [yb, yc, yd, ye, yf, yg, yh, yi, yj, yk, yl, ym, yn, yo] at h15
          refine awp_skip ?_
          refine then_n ?_
          have hlt16 : (rInt 15 (⟨l, false⟩ : Rd)).1.toNat < s.bags.length := by omega
          have hbg := hs.bags (s.bags.getD (rInt 15 (⟨l, false⟩ : Rd)).1.toNat bag0) (by rw [getD_eq _ _ _ hlt16]; exact List.getElem_mem hlt16)
          refine awp_drawn_e (fun f => f == 48) (fun k => k == 18) (QI_block (QI_then KI_awp QI_endsP)) (by kernel_rfl) (by decide) (by rw [hB]; rfl) fun K hK base hbase hfr => ?_
          refine trd_run ?_
          simp (disch := omega) only [go_sem, ↓reduceIte, za, zb, zc, zd, ze, zf, zg, zh, zi, zj, zk, zl, zm, zn, zo, setOb_ne, hσ, hne, dec_t, dec_f, ltI, leI, leN, le63, le40, le0, wrap64_id, wrapu64_id, wrap8_id]
          refine trd_pc (by kernel_rfl) (by rfl) (by simp only [go_sem, ↓reduceIte, za, zb, zc, zd, ze, zf, zg, zh, zi, zj, zk, zl, zm, zn, zo, setOb_ne, hσ, hne] <;> rfl) (c48 (s.bags.getD (rInt 15 (⟨l, false⟩ : Rd)).1.toNat bag0) (rBag (rInt 15 (⟨l, false⟩ : Rd)).2).1 .no .no .no .no .no .no hbg.1 (rBag_in _).2.2.2 hbg.2 (Nat.le_trans (rBag_in _).1 (by decide))) ?_
          simp (disch := omega) only [go_sem, ↓reduceIte, za, zb, zc, zd, ze, zf, zg, zh, zi, zj, zk, zl, zm, zn, zo, setOb_ne, hσ, hne, dec_t, dec_f, ltI, leI, leN, le63, le40, le0, wrap64_id, wrapu64_id, wrap8_id]
          refine trd_nil (hK _ _ _ ?_)
          clear hK K hbase hfr base
          refine block_n ?_
          refine then_n ?_
          refine awp_region_k (fun k => k == 18) (by rw [hB]; rfl) fun K hK base hbase hfr => ?_
          refine tr_run ?_
          simp (disch := omega) only [go_sem, ↓reduceIte, za, zb, zc, zd, ze, zf, zg, zh, zi, zj, zk, zl, zm, zn, zo, setOb_ne, dec_t, dec_f, ltI, leI, leN, le63, le40, le0, wrap64_id, wrapu64_id, wrap8_id]
          refine tr_nil (hK _ _ _ ?_)
          clear hK K hbase hfr base
          refine awp_ret ?_
          have e : dApply s (m :: l) = ({ s with bags := s.bags.set (rInt 15 (⟨l, false⟩ : Rd)).1.toNat (bJoin (s.bags.getD (rInt 15 (⟨l, false⟩ : Rd)).1.toNat bag0) (rBag (rInt 15 (⟨l, false⟩ : Rd)).2).1) }, 0) := by rw [dApply, if_neg (by assumption), if_neg (by assumption), if_pos (by assumption), dB, if_neg (by omega)]
          rw [e]
          exact ⟨_, rfl, VW.refl _, (obs_s (fun h => hne h.symm) (hob _ hrid)), fun _ h => h⟩
      · try simp only [yb, yc, yd, ye, yf, yg, yh, yi, yj, yk, yl, ym, yn, yo] at h14
        refine awp_region_k (fun k => k == 18) (by rw [hB]; rfl) fun K hK base hbase hfr => ?_
        refine tr_run ?_
        simp (disch := omega) only [go_sem, ↓reduceIte, za, zb, zc, zd, ze, zf, zg, zh, zi, zj, zk, zl, zm, zn, zo, setOb_ne, bc1, dec_t, dec_f, ltI, leI, leN, le63, le40, le0, wrap64_id, wrapu64_id, wrap8_id]
        refine tr_nil (hK _ _ _ ?_)
        clear hK K hbase hfr base
        refine awp_cond (rfl) (fun h16 => ?_) (fun h16 => ?_)
        · try simp only [yb, yc, yd, ye, yf, yg, yh, yi, yj, yk, yl, ym, yn, yo] at h16
          refine awp_region_k (fun k => k == 18) (by rw [hB]; rfl) fun K hK base hbase hfr => ?_
          refine tr_run ?_
          simp (disch := omega) only [go_sem, ↓reduceIte, za, zb, zc, zd, ze, zf, zg, zh, zi, zj, zk, zl, zm, zn, zo, setOb_ne, dec_t, dec_f, ltI, leI, leN, le63, le40, le0, wrap64_id, wrapu64_id, wrap8_id]
          refine tr_wc (by rfl) (by simp only [go_sem, ↓reduceIte, za, zb, zc, zd, ze, zf, zg, zh, zi, zj, zk, zl, zm, zn, zo, setOb_ne] <;> rfl) (c49 _ rid (⟨l, false⟩ : Rd) (setOb_same _ _ _)) ?_
          simp (disch := omega) only [go_sem, ↓reduceIte, za, zb, zc, zd, ze, zf, zg, zh, zi, zj, zk, zl, zm, zn, zo, setOb_ne, dec_t, dec_f, ltI, leI, leN, le63, le40, le0, wrap64_id, wrapu64_id, wrap8_id]
          refine tr_nil (hK _ _ _ ?_)
          clear hK K hbase hfr base
          refine awp_seq ?_
          refine awp_region_k (fun k => k == 18) (by rw [hB]; rfl) fun K hK base hbase hfr => ?_
          refine tr_run ?_
          simp (disch := omega) only [go_sem, ↓reduceIte, za, zb, zc, zd, ze, zf, zg, zh, zi, zj, zk, zl, zm, zn, zo, setOb_ne, dec_t, dec_f, ltI, leI, leN, le63, le40, le0, wrap64_id, wrapu64_id, wrap8_id]
          refine tr_wc (by rfl) (by simp only [go_sem, ↓reduceIte, za, zb, zc, zd, ze, zf, zg, zh, zi, zj, zk, zl, zm, zn, zo, setOb_ne] <;> rfl) (c46 _ rid (rdL rTag tCheck 100 (⟨l, false⟩ : Rd)).2 (setOb_same _ _ _)) ?_
          simp (disch := omega) only [go_sem, ↓reduceIte, za, zb, zc, zd, ze, zf, zg, zh, zi, zj, zk, zl, zm, zn, zo, setOb_ne, dec_t, dec_f, ltI, leI, leN, le63, le40, le0, wrap64_id, wrapu64_id, wrap8_id]
          refine tr_nil (hK _ _ _ ?_)
          clear hK K hbase hfr base
          refine awp_cond (rfl) (fun h17 => ?_) (fun h17 => ?_)
          · try simp only [yb, yc, yd, ye, yf, yg, yh, yi, yj, yk, yl, ym, yn, yo] at h17
            refine awp_region_k (fun k => k == 18) (by rw [hB]; rfl) fun K hK base hbase hfr => ?_
            refine tr_run ?_
            simp (disch := omega) only [go_sem, ↓reduceIte, za, zb, zc, zd, ze, zf, zg, zh, zi, zj, zk, zl, zm, zn, zo, setOb_ne, dec_t, dec_f, ltI, leI, leN, le63, le40, le0, wrap64_id, wrapu64_id, wrap8_id]
            refine tr_nil (hK _ _ _ ?_)
            clear hK K hbase hfr base
            refine awp_ret ?_
            refine then_r ?_
            refine block_r ?_
            refine then_r ?_
            have e : dApply s (m :: l) = (s, 10) := by rw [dApply, if_neg (by assumption), if_neg (by assumption), if_neg (by assumption), if_pos (by assumption), dN, if_pos (by omega)]
            rw [e]
            exact ⟨_, rfl, VW.refl _, (obs_r hσ (hob _ hrid)), fun _ h => h⟩
          · try simp only [yb, yc, yd, ye, yf, yg, yh, yi, yj, yk, yl, ym, yn, yo] at h17
            refine awp_skip ?_
            refine then_n ?_
            refine awp_region_e (fun k => k == 18) (by rw [hB]; rfl) fun K hK base hbase hfr => ?_
            refine tr_run ?_
            simp (disch := omega) only [go_sem, ↓reduceIte, za, zb, zc, zd, ze, zf, zg, zh, zi, zj, zk, zl, zm, zn, zo, setOb_ne, hσ, hne, dec_t, dec_f, ltI, leI, leN, le63, le40, le0, wrap64_id, wrapu64_id, wrap8_id]
            refine tr_pc (by rfl) (by simp only [go_sem, ↓reduceIte, za, zb, zc, zd, ze, zf, zg, zh, zi, zj, zk, zl, zm, zn, zo, setOb_ne, hσ, hne] <;> rfl) (c50 s.tags (rdL rTag tCheck 100 (⟨l, false⟩ : Rd)).1 .no .no hs.tags (Nat.le_trans (rdL_len _ _ 100 _) (by decide))) ?_
            simp (disch := omega) only [go_sem, ↓reduceIte, za, zb, zc, zd, ze, zf, zg, zh, zi, zj, zk, zl, zm, zn, zo, setOb_ne, hσ, hne, dec_t, dec_f, ltI, leI, leN, le63, le40, le0, wrap64_id, wrapu64_id, wrap8_id]
            refine tr_nil (hK _ _ _ ?_)
            clear hK K hbase hfr base
            refine block_n ?_
            refine then_n ?_
            refine awp_region_k (fun k => k == 18) (by rw [hB]; rfl) fun K hK base hbase hfr => ?_
            refine tr_run ?_
            simp (disch := omega) only [go_sem, ↓reduceIte, za, zb, zc, zd, ze, zf, zg, zh, zi, zj, zk, zl, zm, zn, zo, setOb_ne, dec_t, dec_f, ltI, leI, leN, le63, le40, le0, wrap64_id, wrapu64_id, wrap8_id]
            refine tr_nil (hK _ _ _ ?_)
            clear hK K hbase hfr base
            refine awp_ret ?_
            have e : dApply s (m :: l) = ({ s with tags := nJoin s.tags (rdL rTag tCheck 100 (⟨l, false⟩ : Rd)).1 }, 0) := by rw [dApply, if_neg (by assumption), if_neg (by assumption), if_neg (by assumption), if_pos (by assumption), dN, if_neg (by omega)]
            rw [e]
            exact ⟨_, rfl, VW.refl _, (obs_s (fun h => hne h.symm) (hob _ hrid)), fun _ h => h⟩
        · try simp only [yb, yc, yd, ye, yf, yg, yh, yi, yj, yk, yl, ym, yn, yo] at h16
          refine awp_region_k (fun k => k == 18) (by rw [hB]; rfl) fun K hK base hbase hfr => ?_
          refine tr_run ?_
          simp (disch := omega) only [go_sem, ↓reduceIte, za, zb, zc, zd, ze, zf, zg, zh, zi, zj, zk, zl, zm, zn, zo, setOb_ne, bc1, dec_t, dec_f, ltI, leI, leN, le63, le40, le0, wrap64_id, wrapu64_id, wrap8_id]
          refine tr_nil (hK _ _ _ ?_)
          clear hK K hbase hfr base
          refine awp_cond (rfl) (fun h18 => ?_) (fun h18 => ?_)
          · try simp only [yb, yc, yd, ye, yf, yg, yh, yi, yj, yk, yl, ym, yn, yo] at h18
            refine awp_region_k (fun k => k == 18) (by rw [hB]; rfl) fun K hK base hbase hfr => ?_
            refine tr_run ?_
            simp (disch := omega) only [go_sem, ↓reduceIte, za, zb, zc, zd, ze, zf, zg, zh, zi, zj, zk, zl, zm, zn, zo, setOb_ne, dec_t, dec_f, ltI, leI, leN, le63, le40, le0, wrap64_id, wrapu64_id, wrap8_id]
            refine tr_wc (by rfl) (by simp only [go_sem, ↓reduceIte, za, zb, zc, zd, ze, zf, zg, zh, zi, zj, zk, zl, zm, zn, zo, setOb_ne] <;> rfl) (c51 _ rid (⟨l, false⟩ : Rd) (setOb_same _ _ _)) ?_
            simp (disch := omega) only [go_sem, ↓reduceIte, za, zb, zc, zd, ze, zf, zg, zh, zi, zj, zk, zl, zm, zn, zo, setOb_ne, dec_t, dec_f, ltI, leI, leN, le63, le40, le0, wrap64_id, wrapu64_id, wrap8_id]
            refine tr_nil (hK _ _ _ ?_)
            clear hK K hbase hfr base
            refine awp_seq ?_
            refine awp_region_k (fun k => k == 18) (by rw [hB]; rfl) fun K hK base hbase hfr => ?_
            refine tr_run ?_
            simp (disch := omega) only [go_sem, ↓reduceIte, za, zb, zc, zd, ze, zf, zg, zh, zi, zj, zk, zl, zm, zn, zo, setOb_ne, dec_t, dec_f, ltI, leI, leN, le63, le40, le0, wrap64_id, wrapu64_id, wrap8_id]
            refine tr_wc (by rfl) (by simp only [go_sem, ↓reduceIte, za, zb, zc, zd, ze, zf, zg, zh, zi, zj, zk, zl, zm, zn, zo, setOb_ne] <;> rfl) (c46 _ rid (rdL rPeer pCheck 64 (⟨l, false⟩ : Rd)).2 (setOb_same _ _ _)) ?_
            simp (disch := omega) only [go_sem, ↓reduceIte, za, zb, zc, zd, ze, zf, zg, zh, zi, zj, zk, zl, zm, zn, zo, setOb_ne, dec_t, dec_f, ltI, leI, leN, le63, le40, le0, wrap64_id, wrapu64_id, wrap8_id]
            refine tr_nil (hK _ _ _ ?_)
            clear hK K hbase hfr base
            refine awp_cond (rfl) (fun h19 => ?_) (fun h19 => ?_)
            · try simp only [yb, yc, yd, ye, yf, yg, yh, yi, yj, yk, yl, ym, yn, yo] at h19
              refine awp_region_k (fun k => k == 18) (by rw [hB]; rfl) fun K hK base hbase hfr => ?_
              refine tr_run ?_
              simp (disch := omega) only [go_sem, ↓reduceIte, za, zb, zc, zd, ze, zf, zg, zh, zi, zj, zk, zl, zm, zn, zo, setOb_ne, dec_t, dec_f, ltI, leI, leN, le63, le40, le0, wrap64_id, wrapu64_id, wrap8_id]
              refine tr_nil (hK _ _ _ ?_)
              clear hK K hbase hfr base
              refine awp_ret ?_
              refine then_r ?_
              refine block_r ?_
              refine then_r ?_
              have e : dApply s (m :: l) = (s, 10) := by rw [dApply, if_neg (by assumption), if_neg (by assumption), if_neg (by assumption), if_neg (by assumption), if_pos (by assumption), dV, if_pos (by omega)]
              rw [e]
              exact ⟨_, rfl, VW.refl _, (obs_r hσ (hob _ hrid)), fun _ h => h⟩
            · try simp only [yb, yc, yd, ye, yf, yg, yh, yi, yj, yk, yl, ym, yn, yo] at h19
              refine awp_skip ?_
              refine then_n ?_
              refine awp_region_e (fun k => k == 18) (by rw [hB]; rfl) fun K hK base hbase hfr => ?_
              refine tr_run ?_
              simp (disch := omega) only [go_sem, ↓reduceIte, za, zb, zc, zd, ze, zf, zg, zh, zi, zj, zk, zl, zm, zn, zo, setOb_ne, hσ, hne, dec_t, dec_f, ltI, leI, leN, le63, le40, le0, wrap64_id, wrapu64_id, wrap8_id]
              refine tr_pc (by rfl) (by simp only [go_sem, ↓reduceIte, za, zb, zc, zd, ze, zf, zg, zh, zi, zj, zk, zl, zm, zn, zo, setOb_ne, hσ, hne] <;> rfl) (c52 s.view (rdL rPeer pCheck 64 (⟨l, false⟩ : Rd)).1 .no .no hs.view (Nat.le_trans (rdL_len _ _ 64 _) (by decide))) ?_
              simp (disch := omega) only [go_sem, ↓reduceIte, za, zb, zc, zd, ze, zf, zg, zh, zi, zj, zk, zl, zm, zn, zo, setOb_ne, hσ, hne, dec_t, dec_f, ltI, leI, leN, le63, le40, le0, wrap64_id, wrapu64_id, wrap8_id]
              refine tr_nil (hK _ _ _ ?_)
              clear hK K hbase hfr base
              refine block_n ?_
              refine then_n ?_
              refine awp_region_k (fun k => k == 18) (by rw [hB]; rfl) fun K hK base hbase hfr => ?_
              refine tr_run ?_
              simp (disch := omega) only [go_sem, ↓reduceIte, za, zb, zc, zd, ze, zf, zg, zh, zi, zj, zk, zl, zm, zn, zo, setOb_ne, dec_t, dec_f, ltI, leI, leN, le63, le40, le0, wrap64_id, wrapu64_id, wrap8_id]
              refine tr_nil (hK _ _ _ ?_)
              clear hK K hbase hfr base
              refine awp_ret ?_
              have e : dApply s (m :: l) = ({ s with view := pJoin s.view (rdL rPeer pCheck 64 (⟨l, false⟩ : Rd)).1 }, 0) := by rw [dApply, if_neg (by assumption), if_neg (by assumption), if_neg (by assumption), if_neg (by assumption), if_pos (by assumption), dV, if_neg (by omega)]
              rw [e]
              exact ⟨_, rfl, VW.refl _, (obs_s (fun h => hne h.symm) (hob _ hrid)), fun _ h => h⟩
          · try simp only [yb, yc, yd, ye, yf, yg, yh, yi, yj, yk, yl, ym, yn, yo] at h18
            refine awp_region_k (fun k => k == 18) (by rw [hB]; rfl) fun K hK base hbase hfr => ?_
            refine tr_run ?_
            simp (disch := omega) only [go_sem, ↓reduceIte, za, zb, zc, zd, ze, zf, zg, zh, zi, zj, zk, zl, zm, zn, zo, setOb_ne, bc1, dec_t, dec_f, ltI, leI, leN, le63, le40, le0, wrap64_id, wrapu64_id, wrap8_id]
            refine tr_nil (hK _ _ _ ?_)
            clear hK K hbase hfr base
            refine awp_cond (rfl) (fun h20 => ?_) (fun h20 => ?_)
            · try simp only [yb, yc, yd, ye, yf, yg, yh, yi, yj, yk, yl, ym, yn, yo] at h20
              refine awp_region_k (fun k => k == 18) (by rw [hB]; rfl) fun K hK base hbase hfr => ?_
              refine tr_run ?_
              simp (disch := omega) only [go_sem, ↓reduceIte, za, zb, zc, zd, ze, zf, zg, zh, zi, zj, zk, zl, zm, zn, zo, setOb_ne, dec_t, dec_f, ltI, leI, leN, le63, le40, le0, wrap64_id, wrapu64_id, wrap8_id]
              refine tr_wc (by rfl) (by simp only [go_sem, ↓reduceIte, za, zb, zc, zd, ze, zf, zg, zh, zi, zj, zk, zl, zm, zn, zo, setOb_ne] <;> rfl) (c53 _ rid (⟨l, false⟩ : Rd) (setOb_same _ _ _)) ?_
              simp (disch := omega) only [go_sem, ↓reduceIte, za, zb, zc, zd, ze, zf, zg, zh, zi, zj, zk, zl, zm, zn, zo, setOb_ne, dec_t, dec_f, ltI, leI, leN, le63, le40, le0, wrap64_id, wrapu64_id, wrap8_id]
              refine tr_nil (hK _ _ _ ?_)
              clear hK K hbase hfr base
              refine awp_seq ?_
              refine awp_region_k (fun k => k == 18) (by rw [hB]; rfl) fun K hK base hbase hfr => ?_
              refine tr_run ?_
              simp (disch := omega) only [go_sem, ↓reduceIte, za, zb, zc, zd, ze, zf, zg, zh, zi, zj, zk, zl, zm, zn, zo, setOb_ne, dec_t, dec_f, ltI, leI, leN, le63, le40, le0, wrap64_id, wrapu64_id, wrap8_id]
              refine tr_wc (by rfl) (by simp only [go_sem, ↓reduceIte, za, zb, zc, zd, ze, zf, zg, zh, zi, zj, zk, zl, zm, zn, zo, setOb_ne] <;> rfl) (c46 _ rid (rdL rHold hCheck 1000 (⟨l, false⟩ : Rd)).2 (setOb_same _ _ _)) ?_
              simp (disch := omega) only [go_sem, ↓reduceIte, za, zb, zc, zd, ze, zf, zg, zh, zi, zj, zk, zl, zm, zn, zo, setOb_ne, dec_t, dec_f, ltI, leI, leN, le63, le40, le0, wrap64_id, wrapu64_id, wrap8_id]
              refine tr_nil (hK _ _ _ ?_)
              clear hK K hbase hfr base
              refine awp_cond (rfl) (fun h21 => ?_) (fun h21 => ?_)
              · try simp only [yb, yc, yd, ye, yf, yg, yh, yi, yj, yk, yl, ym, yn, yo] at h21
                refine awp_region_k (fun k => k == 18) (by rw [hB]; rfl) fun K hK base hbase hfr => ?_
                refine tr_run ?_
                simp (disch := omega) only [go_sem, ↓reduceIte, za, zb, zc, zd, ze, zf, zg, zh, zi, zj, zk, zl, zm, zn, zo, setOb_ne, dec_t, dec_f, ltI, leI, leN, le63, le40, le0, wrap64_id, wrapu64_id, wrap8_id]
                refine tr_nil (hK _ _ _ ?_)
                clear hK K hbase hfr base
                refine awp_ret ?_
                refine then_r ?_
                refine block_r ?_
                refine then_r ?_
                have e : dApply s (m :: l) = (s, 10) := by rw [dApply, if_neg (by assumption), if_neg (by assumption), if_neg (by assumption), if_neg (by assumption), if_neg (by assumption), if_pos (by assumption), dH, if_pos (by omega)]
                rw [e]
                exact ⟨_, rfl, VW.refl _, (obs_r hσ (hob _ hrid)), fun _ h => h⟩
              · try simp only [yb, yc, yd, ye, yf, yg, yh, yi, yj, yk, yl, ym, yn, yo] at h21
                refine awp_skip ?_
                refine then_n ?_
                refine awp_region_e (fun k => k == 18) (by rw [hB]; rfl) fun K hK base hbase hfr => ?_
                refine tr_run ?_
                simp (disch := omega) only [go_sem, ↓reduceIte, za, zb, zc, zd, ze, zf, zg, zh, zi, zj, zk, zl, zm, zn, zo, setOb_ne, hσ, hne, dec_t, dec_f, ltI, leI, leN, le63, le40, le0, wrap64_id, wrapu64_id, wrap8_id]
                refine tr_nil (hK _ _ _ ?_)
                clear hK K hbase hfr base
                refine block_n ?_
                refine then_n ?_
                refine awp_region_k (fun k => k == 18) (by rw [hB]; rfl) fun K hK base hbase hfr => ?_
                refine tr_run ?_
                simp (disch := omega) only [go_sem, ↓reduceIte, za, zb, zc, zd, ze, zf, zg, zh, zi, zj, zk, zl, zm, zn, zo, setOb_ne, dec_t, dec_f, ltI, leI, leN, le63, le40, le0, wrap64_id, wrapu64_id, wrap8_id]
                refine tr_nil (hK _ _ _ ?_)
                clear hK K hbase hfr base
                refine awp_ret ?_
                have e : dApply s (m :: l) = ({ s with holds := (rdL rHold hCheck 1000 (⟨l, false⟩ : Rd)).1 }, 0) := by rw [dApply, if_neg (by assumption), if_neg (by assumption), if_neg (by assumption), if_neg (by assumption), if_neg (by assumption), if_pos (by assumption), dH, if_neg (by omega)]
                rw [e]
                exact ⟨_, rfl, VW.refl _, (obs_s (fun h => hne h.symm) (hob _ hrid)), fun _ h => h⟩
            · try simp only [yb, yc, yd, ye, yf, yg, yh, yi, yj, yk, yl, ym, yn, yo] at h20
              refine awp_region_k (fun k => k == 18) (by rw [hB]; rfl) fun K hK base hbase hfr => ?_
              refine tr_run ?_
              simp (disch := omega) only [go_sem, ↓reduceIte, za, zb, zc, zd, ze, zf, zg, zh, zi, zj, zk, zl, zm, zn, zo, setOb_ne, dec_t, dec_f, ltI, leI, leN, le63, le40, le0, wrap64_id, wrapu64_id, wrap8_id]
              refine tr_nil (hK _ _ _ ?_)
              clear hK K hbase hfr base
              refine awp_ret ?_
              refine block_r ?_
              refine then_r ?_
              have e : dApply s (m :: l) = (s, 10) := by rw [dApply, if_neg (by assumption), if_neg (by assumption), if_neg (by assumption), if_neg (by assumption), if_neg (by assumption), if_neg (by assumption)]
              rw [e]
              exact ⟨_, rfl, VW.refl _, (obs_r hσ (hob _ hrid)), fun _ h => h⟩
end Go.Am
