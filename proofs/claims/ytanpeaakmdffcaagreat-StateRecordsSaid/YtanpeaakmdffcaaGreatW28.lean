/- What functions of this program compute, a part: see the main text. No conditions. -/
import Derived.Test.YtanpeaakmdffcaaGreatW27
set_option linter.all false
set_option maxRecDepth 100000
namespace Go.Am
open Go
open Nat renaming reduceEqDiff → za, reduceAdd → zb, reduceMul → zc, reducePow → zd, reduceLeDiff → ze, reduceSub → zf, reduceBEq → zg, reduceBNe → zh, reduceDiv → zi, reduceMod → zj
open Int renaming reduceLT → zk, reduceLE → zl, reduceEq → zm, reduceNe → zn, reduceToNat → zo

set_option maxHeartbeats 4000000 in
theorem c81 (σ : Sh) (oid a b : Nat) (s : St) (n : Int) (hb16 : s.bags.length = 16) (ha : σ.ob a = some (.cells [.int .i64 n])) (hbb : σ.ob b = some (.cells [.ptr oid 0])) (hσ : σ.ob oid = some (.cells (stV s))) : WCalls Go.Proofs.Tryz.prog 81 [.ptr a 0, .ptr b 0] σ (.tuple []) (σ.setOb oid (.cells (stV { s with id := n }))) := by
  refine wcalls_of_awp Go.Proofs.Tryz.func81 rfl (by decide) (Nat.le_of_ble_eq_true rfl) ?_
  intro B hB ho hob
  refine awp_region_e (fun _ => false) (by rw [hB]; rfl) fun K hK base hbase hfr => ?_
  refine tr_run ?_
  simp (disch := omega) only [go_sem, ↓reduceIte, za, zb, zc, zd, ze, zf, zg, zh, zi, zj, zk, zl, zm, zn, zo, ha, hbb, hσ, dec_t, dec_f, ltI, leI, leN, le63, le40, le0, wrap64_id, wrapu64_id, wrap8_id]
  refine tr_nil (hK _ _ _ ?_)
  clear hK K hbase hfr base
  refine ⟨_, rfl, ?_, fun _ _ h => h, fun _ h => h⟩
  exact VW.refl _
set_option maxHeartbeats 4000000 in
theorem c82 (σ : Sh) (oid a b : Nat) (s : St) (n : Int) (hb16 : s.bags.length = 16) (ha : σ.ob a = some (.cells [.int .i64 n])) (hbb : σ.ob b = some (.cells [.ptr oid 0])) (hσ : σ.ob oid = some (.cells (stV s))) : WCalls Go.Proofs.Tryz.prog 82 [.ptr b 0, .ptr a 0] σ (.tuple []) (σ.setOb oid (.cells (stV { s with upto := max s.upto n }))) := by
  refine wcalls_of_awp Go.Proofs.Tryz.func82 rfl (by decide) (Nat.le_of_ble_eq_true rfl) ?_
  intro B hB ho hob
  refine awp_drawn_e (fun _ => false) (fun _ => false) QI_endsP (by kernel_rfl) (by decide) (by rw [hB]; rfl) fun K hK base hbase hfr => ?_
  refine trd_run ?_
  simp (disch := omega) only [go_sem, ↓reduceIte, za, zb, zc, zd, ze, zf, zg, zh, zi, zj, zk, zl, zm, zn, zo, ha, hbb, hσ, dec_t, dec_f, ltI, leI, leN, le63, le40, le0, wrap64_id, wrapu64_id, wrap8_id]
  refine trd_nil (hK _ _ _ ?_)
  clear hK K hbase hfr base
  refine ⟨_, rfl, ?_, fun _ _ h => h, fun _ h => h⟩
  exact VW.refl _
set_option maxHeartbeats 4000000 in
theorem c39Ib (σ : Sh) (oid rid : Nat) (r : Rd) (hr : σ.ob rid = some (.cells (rdV r))) (hbad : (rInt 1099511627776 r).1 < 1) : ACalls Go.Proofs.Tryz.prog 39 [.ptr oid 0, .str [73], .ptr rid 0] σ (fun r' σ' => r' = .nilf ∧ ∃ b a, σ.ob b = none ∧ σ.ob a = none ∧ b ≠ rid ∧ a ≠ b ∧ a ≠ rid ∧ σ' = ((σ.setOb b (.cells [.ptr oid 0])).setOb rid (.cells (rdV (rInt 1099511627776 r).2))).setOb a (.cells [.int .i64 (rInt 1099511627776 r).1])) := by
  have hltm : decide ((rInt 1099511627776 r).1 < 1) = true := by first | exact decide_eq_true (by omega) | exact decide_eq_false (by omega)
  have hlt : ∀ n, σ.ob n = none → rid ≠ n := fun n hn e => by rw [e, hn] at hr; cases hr
  have hrd : ∀ bb, rid ≠ bb → (σ.setOb bb (.cells [.ptr oid 0])).ob rid = some (.cells (rdV r)) := fun bb hn => by rw [Sh.setOb_ob, if_neg hn]; exact hr
  refine acalls_of_awp Go.Proofs.Tryz.func39 rfl (by decide) (Nat.le_of_ble_eq_true rfl) ?_
  intro B hB hBσ hlv hob
  refine awp_region2_k (fun k => k == 3 || k == 7) (by rw [hB]; rfl) fun K hK base hbase hfr hfo => ?_
  refine tr_run ?_
  simp (disch := omega) only [go_sem, ↓reduceIte, za, zb, zc, zd, ze, zf, zg, zh, zi, zj, zk, zl, zm, zn, zo, setOb_ne, dec_t, dec_f, ltI, leI, leN, le63, le40, le0, wrap64_id, wrapu64_id, wrap8_id]
  refine tr_nil (hK _ _ _ ?_)
  clear hK K hfr
  obtain ⟨bb, hbb, hbe⟩ : ∃ bb, B.g.nt ≤ bb ∧ base = bb := ⟨_, hbase, rfl⟩
  rw [hbe]
  clear hbe hbase hfo base
  have hne : rid ≠ bb := hlt _ (hob _ hbb)
  have hne2 : bb ≠ rid := fun e => hne e.symm
  refine awp_seq ?_
  refine awp_region_k (fun k => k == 3 || k == 7) (by rw [hB]; rfl) fun K hK base hbase hfr => ?_
  refine tr_run ?_
  simp (disch := omega) only [go_sem, ↓reduceIte, za, zb, zc, zd, ze, zf, zg, zh, zi, zj, zk, zl, zm, zn, zo, setOb_ne, dec_t, dec_f, ltI, leI, leN, le63, le40, le0, wrap64_id, wrapu64_id, wrap8_id]
  refine tr_nil (hK _ _ _ ?_)
  clear hK K hbase hfr base
  refine awp_block ?_
  refine awp_region_k (fun k => k == 3 || k == 7) (by rw [hB]; rfl) fun K hK base hbase hfr => ?_
  refine tr_run ?_
  simp (disch := omega) only [go_sem, ↓reduceIte, za, zb, zc, zd, ze, zf, zg, zh, zi, zj, zk, zl, zm, zn, zo, setOb_ne, bc1, dec_t, dec_f, ltI, leI, leN, le63, le40, le0, wrap64_id, wrapu64_id, wrap8_id]
  refine tr_nil (hK _ _ _ ?_)
  clear hK K hbase hfr base
  refine awp_cond (rfl) (fun h1 => ?_) (fun h1 => by cases h1)
  refine awp_region2_k (fun k => k == 3 || k == 7) (by rw [hB]; rfl) fun K hK base hbase hfr hfo => ?_
  refine tr_run ?_
  simp (disch := omega) only [go_sem, ↓reduceIte, za, zb, zc, zd, ze, zf, zg, zh, zi, zj, zk, zl, zm, zn, zo, setOb_ne, dec_t, dec_f, ltI, leI, leN, le63, le40, le0, wrap64_id, wrapu64_id, wrap8_id]
  refine tr_wc (by rfl) (by simp only [go_sem, ↓reduceIte, za, zb, zc, zd, ze, zf, zg, zh, zi, zj, zk, zl, zm, zn, zo, setOb_ne] <;> rfl) (c80 _ rid r 1099511627776 (by decide) (by unfold I63; decide) (hrd _ hne)) ?_
  simp (disch := omega) only [go_sem, ↓reduceIte, za, zb, zc, zd, ze, zf, zg, zh, zi, zj, zk, zl, zm, zn, zo, setOb_ne, dec_t, dec_f, ltI, leI, leN, le63, le40, le0, wrap64_id, wrapu64_id, wrap8_id]
  refine tr_nil (hK _ _ _ ?_)
  clear hK K hfr
  obtain ⟨aa, haf, hae⟩ : ∃ aa, (∀ n, aa ≤ n → (σ.setOb bb (.cells [.ptr oid 0])).ob n = none) ∧ base + 2 = aa := ⟨_, fun n hn => hfo n (by omega), rfl⟩
  have hag : B.g.nt ≤ aa := by omega
  rw [hae]
  clear hae hbase hfo base
  have haa : σ.ob aa = none := hob _ hag
  have hne3 : aa ≠ bb := fun e => by have := haf aa (Nat.le_refl _); rw [e, setOb_same] at this; cases this
  have hne4 : aa ≠ rid := fun e => hlt _ haa e.symm
  clear haf hag
  refine awp_seq ?_
  refine awp_region_k (fun k => k == 3 || k == 7) (by rw [hB]; rfl) fun K hK base hbase hfr => ?_
  refine tr_run ?_
  simp (disch := omega) only [go_sem, ↓reduceIte, za, zb, zc, zd, ze, zf, zg, zh, zi, zj, zk, zl, zm, zn, zo, setOb_ne, hltm, dec_t, dec_f, ltI, leI, leN, le63, le40, le0, wrap64_id, wrapu64_id, wrap8_id]
  refine tr_nil (hK _ _ _ ?_)
  clear hK K hbase hfr base
  refine awp_cond (rfl) (fun h2 => ?_) (fun h2 => by cases h2)
  refine awp_region_k (fun k => k == 3 || k == 7) (by rw [hB]; rfl) fun K hK base hbase hfr => ?_
  refine tr_run ?_
  simp (disch := omega) only [go_sem, ↓reduceIte, za, zb, zc, zd, ze, zf, zg, zh, zi, zj, zk, zl, zm, zn, zo, setOb_ne, dec_t, dec_f, ltI, leI, leN, le63, le40, le0, wrap64_id, wrapu64_id, wrap8_id]
  refine tr_nil (hK _ _ _ ?_)
  clear hK K hbase hfr base
  refine awp_ret ?_
  refine then_r ?_
  refine block_r ?_
  refine then_r ?_
  refine ⟨_, _, rfl, fun _ _ h => h, fun _ h => h, rfl, bb, aa, hob _ hbb, haa, hne2, hne3, hne4, rfl⟩
set_option maxHeartbeats 4000000 in
theorem c39Io (σ : Sh) (oid rid : Nat) (r : Rd) (hr : σ.ob rid = some (.cells (rdV r))) (hbad : 1 ≤ (rInt 1099511627776 r).1) : ACalls Go.Proofs.Tryz.prog 39 [.ptr oid 0, .str [73], .ptr rid 0] σ (fun r' σ' => ∃ b a, r' = .func (.func 81) [.ptr a 0, .ptr b 0] ∧ σ.ob b = none ∧ σ.ob a = none ∧ b ≠ rid ∧ a ≠ b ∧ a ≠ rid ∧ σ' = ((σ.setOb b (.cells [.ptr oid 0])).setOb rid (.cells (rdV (rInt 1099511627776 r).2))).setOb a (.cells [.int .i64 (rInt 1099511627776 r).1])) := by
  have hltm : decide ((rInt 1099511627776 r).1 < 1) = false := by first | exact decide_eq_true (by omega) | exact decide_eq_false (by omega)
  have hlt : ∀ n, σ.ob n = none → rid ≠ n := fun n hn e => by rw [e, hn] at hr; cases hr
  have hrd : ∀ bb, rid ≠ bb → (σ.setOb bb (.cells [.ptr oid 0])).ob rid = some (.cells (rdV r)) := fun bb hn => by rw [Sh.setOb_ob, if_neg hn]; exact hr
  refine acalls_of_awp Go.Proofs.Tryz.func39 rfl (by decide) (Nat.le_of_ble_eq_true rfl) ?_
  intro B hB hBσ hlv hob
  refine awp_region2_k (fun k => k == 3 || k == 7) (by rw [hB]; rfl) fun K hK base hbase hfr hfo => ?_
  refine tr_run ?_
  simp (disch := omega) only [go_sem, ↓reduceIte, za, zb, zc, zd, ze, zf, zg, zh, zi, zj, zk, zl, zm, zn, zo, setOb_ne, dec_t, dec_f, ltI, leI, leN, le63, le40, le0, wrap64_id, wrapu64_id, wrap8_id]
  refine tr_nil (hK _ _ _ ?_)
  clear hK K hfr
  obtain ⟨bb, hbb, hbe⟩ : ∃ bb, B.g.nt ≤ bb ∧ base = bb := ⟨_, hbase, rfl⟩
  rw [hbe]
  clear hbe hbase hfo base
  have hne : rid ≠ bb := hlt _ (hob _ hbb)
  have hne2 : bb ≠ rid := fun e => hne e.symm
  refine awp_seq ?_
  refine awp_region_k (fun k => k == 3 || k == 7) (by rw [hB]; rfl) fun K hK base hbase hfr => ?_
  refine tr_run ?_
  simp (disch := omega) only [go_sem, ↓reduceIte, za, zb, zc, zd, ze, zf, zg, zh, zi, zj, zk, zl, zm, zn, zo, setOb_ne, dec_t, dec_f, ltI, leI, leN, le63, le40, le0, wrap64_id, wrapu64_id, wrap8_id]
  refine tr_nil (hK _ _ _ ?_)
  clear hK K hbase hfr base
  refine awp_block ?_
  refine awp_region_k (fun k => k == 3 || k == 7) (by rw [hB]; rfl) fun K hK base hbase hfr => ?_
  refine tr_run ?_
  simp (disch := omega) only [go_sem, ↓reduceIte, za, zb, zc, zd, ze, zf, zg, zh, zi, zj, zk, zl, zm, zn, zo, setOb_ne, bc1, dec_t, dec_f, ltI, leI, leN, le63, le40, le0, wrap64_id, wrapu64_id, wrap8_id]
  refine tr_nil (hK _ _ _ ?_)
  clear hK K hbase hfr base
  refine awp_cond (rfl) (fun h1 => ?_) (fun h1 => by cases h1)
  refine awp_region2_k (fun k => k == 3 || k == 7) (by rw [hB]; rfl) fun K hK base hbase hfr hfo => ?_
  refine tr_run ?_
  simp (disch := omega) only [go_sem, ↓reduceIte, za, zb, zc, zd, ze, zf, zg, zh, zi, zj, zk, zl, zm, zn, zo, setOb_ne, dec_t, dec_f, ltI, leI, leN, le63, le40, le0, wrap64_id, wrapu64_id, wrap8_id]
  refine tr_wc (by rfl) (by simp only [go_sem, ↓reduceIte, za, zb, zc, zd, ze, zf, zg, zh, zi, zj, zk, zl, zm, zn, zo, setOb_ne] <;> rfl) (c80 _ rid r 1099511627776 (by decide) (by unfold I63; decide) (hrd _ hne)) ?_
  simp (disch := omega) only [go_sem, ↓reduceIte, za, zb, zc, zd, ze, zf, zg, zh, zi, zj, zk, zl, zm, zn, zo, setOb_ne, dec_t, dec_f, ltI, leI, leN, le63, le40, le0, wrap64_id, wrapu64_id, wrap8_id]
  refine tr_nil (hK _ _ _ ?_)
  clear hK K hfr
  obtain ⟨aa, haf, hae⟩ : ∃ aa, (∀ n, aa ≤ n → (σ.setOb bb (.cells [.ptr oid 0])).ob n = none) ∧ base + 2 = aa := ⟨_, fun n hn => hfo n (by omega), rfl⟩
  have hag : B.g.nt ≤ aa := by omega
  rw [hae]
  clear hae hbase hfo base
  have haa : σ.ob aa = none := hob _ hag
  have hne3 : aa ≠ bb := fun e => by have := haf aa (Nat.le_refl _); rw [e, setOb_same] at this; cases this
  have hne4 : aa ≠ rid := fun e => hlt _ haa e.symm
  clear haf hag
  refine awp_seq ?_
  refine awp_region_k (fun k => k == 3 || k == 7) (by rw [hB]; rfl) fun K hK base hbase hfr => ?_
  refine tr_run ?_
  simp (disch := omega) only [go_sem, ↓reduceIte, za, zb, zc, zd, ze, zf, zg, zh, zi, zj, zk, zl, zm, zn, zo, setOb_ne, hltm, dec_t, dec_f, ltI, leI, leN, le63, le40, le0, wrap64_id, wrapu64_id, wrap8_id]
  refine tr_nil (hK _ _ _ ?_)
  clear hK K hbase hfr base
  refine awp_cond (rfl) (fun h2 => by cases h2) (fun h2 => ?_)
  refine awp_skip ?_
  refine then_n ?_
  refine awp_region_k (fun k => k == 3 || k == 7) (by rw [hB]; rfl) fun K hK base hbase hfr => ?_
  refine tr_run ?_
  simp (disch := omega) only [go_sem, ↓reduceIte, za, zb, zc, zd, ze, zf, zg, zh, zi, zj, zk, zl, zm, zn, zo, setOb_ne, dec_t, dec_f, ltI, leI, leN, le63, le40, le0, wrap64_id, wrapu64_id, wrap8_id]
  refine tr_nil (hK _ _ _ ?_)
  clear hK K hbase hfr base
  refine awp_ret ?_
  refine block_r ?_
  refine then_r ?_
  refine ⟨_, _, rfl, fun _ _ h => h, fun _ h => h, bb, aa, rfl, hob _ hbb, haa, hne2, hne3, hne4, rfl⟩
set_option maxHeartbeats 4000000 in
theorem c39Rb (σ : Sh) (oid rid : Nat) (r : Rd) (hr : σ.ob rid = some (.cells (rdV r))) (hbad : (rInt 1099511627776 r).1 < 1) : ACalls Go.Proofs.Tryz.prog 39 [.ptr oid 0, .str [82], .ptr rid 0] σ (fun r' σ' => r' = .nilf ∧ ∃ b a, σ.ob b = none ∧ σ.ob a = none ∧ b ≠ rid ∧ a ≠ b ∧ a ≠ rid ∧ σ' = ((σ.setOb b (.cells [.ptr oid 0])).setOb rid (.cells (rdV (rInt 1099511627776 r).2))).setOb a (.cells [.int .i64 (rInt 1099511627776 r).1])) := by
  have hltm : decide ((rInt 1099511627776 r).1 < 1) = true := by first | exact decide_eq_true (by omega) | exact decide_eq_false (by omega)
  have hlt : ∀ n, σ.ob n = none → rid ≠ n := fun n hn e => by rw [e, hn] at hr; cases hr
  have hrd : ∀ bb, rid ≠ bb → (σ.setOb bb (.cells [.ptr oid 0])).ob rid = some (.cells (rdV r)) := fun bb hn => by rw [Sh.setOb_ob, if_neg hn]; exact hr
  refine acalls_of_awp Go.Proofs.Tryz.func39 rfl (by decide) (Nat.le_of_ble_eq_true rfl) ?_
  intro B hB hBσ hlv hob
  refine awp_region2_k (fun k => k == 3 || k == 8) (by rw [hB]; rfl) fun K hK base hbase hfr hfo => ?_
  refine tr_run ?_
  simp (disch := omega) only [go_sem, ↓reduceIte, za, zb, zc, zd, ze, zf, zg, zh, zi, zj, zk, zl, zm, zn, zo, setOb_ne, dec_t, dec_f, ltI, leI, leN, le63, le40, le0, wrap64_id, wrapu64_id, wrap8_id]
  refine tr_nil (hK _ _ _ ?_)
  clear hK K hfr
  obtain ⟨bb, hbb, hbe⟩ : ∃ bb, B.g.nt ≤ bb ∧ base = bb := ⟨_, hbase, rfl⟩
  rw [hbe]
  clear hbe hbase hfo base
  have hne : rid ≠ bb := hlt _ (hob _ hbb)
  have hne2 : bb ≠ rid := fun e => hne e.symm
  refine awp_seq ?_
  refine awp_region_k (fun k => k == 3 || k == 8) (by rw [hB]; rfl) fun K hK base hbase hfr => ?_
  refine tr_run ?_
  simp (disch := omega) only [go_sem, ↓reduceIte, za, zb, zc, zd, ze, zf, zg, zh, zi, zj, zk, zl, zm, zn, zo, setOb_ne, dec_t, dec_f, ltI, leI, leN, le63, le40, le0, wrap64_id, wrapu64_id, wrap8_id]
  refine tr_nil (hK _ _ _ ?_)
  clear hK K hbase hfr base
  refine awp_block ?_
  refine awp_region_k (fun k => k == 3 || k == 8) (by rw [hB]; rfl) fun K hK base hbase hfr => ?_
  refine tr_run ?_
  simp (disch := omega) only [go_sem, ↓reduceIte, za, zb, zc, zd, ze, zf, zg, zh, zi, zj, zk, zl, zm, zn, zo, setOb_ne, bc1, dec_t, dec_f, ltI, leI, leN, le63, le40, le0, wrap64_id, wrapu64_id, wrap8_id]
  refine tr_nil (hK _ _ _ ?_)
  clear hK K hbase hfr base
  refine awp_cond (rfl) (fun h1 => by cases h1) (fun h1 => ?_)
  refine awp_region_k (fun k => k == 3 || k == 8) (by rw [hB]; rfl) fun K hK base hbase hfr => ?_
  refine tr_run ?_
  simp (disch := omega) only [go_sem, ↓reduceIte, za, zb, zc, zd, ze, zf, zg, zh, zi, zj, zk, zl, zm, zn, zo, setOb_ne, bc1, dec_t, dec_f, ltI, leI, leN, le63, le40, le0, wrap64_id, wrapu64_id, wrap8_id]
  refine tr_nil (hK _ _ _ ?_)
  clear hK K hbase hfr base
  refine awp_cond (rfl) (fun h2 => ?_) (fun h2 => by cases h2)
  refine awp_region2_k (fun k => k == 3 || k == 8) (by rw [hB]; rfl) fun K hK base hbase hfr hfo => ?_
  refine tr_run ?_
  simp (disch := omega) only [go_sem, ↓reduceIte, za, zb, zc, zd, ze, zf, zg, zh, zi, zj, zk, zl, zm, zn, zo, setOb_ne, dec_t, dec_f, ltI, leI, leN, le63, le40, le0, wrap64_id, wrapu64_id, wrap8_id]
  refine tr_wc (by rfl) (by simp only [go_sem, ↓reduceIte, za, zb, zc, zd, ze, zf, zg, zh, zi, zj, zk, zl, zm, zn, zo, setOb_ne] <;> rfl) (c80 _ rid r 1099511627776 (by decide) (by unfold I63; decide) (hrd _ hne)) ?_
  simp (disch := omega) only [go_sem, ↓reduceIte, za, zb, zc, zd, ze, zf, zg, zh, zi, zj, zk, zl, zm, zn, zo, setOb_ne, dec_t, dec_f, ltI, leI, leN, le63, le40, le0, wrap64_id, wrapu64_id, wrap8_id]
  refine tr_nil (hK _ _ _ ?_)
  clear hK K hfr
  obtain ⟨aa, haf, hae⟩ : ∃ aa, (∀ n, aa ≤ n → (σ.setOb bb (.cells [.ptr oid 0])).ob n = none) ∧ base + 2 = aa := ⟨_, fun n hn => hfo n (by omega), rfl⟩
  have hag : B.g.nt ≤ aa := by omega
  rw [hae]
  clear hae hbase hfo base
  have haa : σ.ob aa = none := hob _ hag
  have hne3 : aa ≠ bb := fun e => by have := haf aa (Nat.le_refl _); rw [e, setOb_same] at this; cases this
  have hne4 : aa ≠ rid := fun e => hlt _ haa e.symm
  clear haf hag
  refine awp_seq ?_
  refine awp_region_k (fun k => k == 3 || k == 8) (by rw [hB]; rfl) fun K hK base hbase hfr => ?_
  refine tr_run ?_
  simp (disch := omega) only [go_sem, ↓reduceIte, za, zb, zc, zd, ze, zf, zg, zh, zi, zj, zk, zl, zm, zn, zo, setOb_ne, hltm, dec_t, dec_f, ltI, leI, leN, le63, le40, le0, wrap64_id, wrapu64_id, wrap8_id]
  refine tr_nil (hK _ _ _ ?_)
  clear hK K hbase hfr base
  refine awp_cond (rfl) (fun h3 => ?_) (fun h3 => by cases h3)
  refine awp_region_k (fun k => k == 3 || k == 8) (by rw [hB]; rfl) fun K hK base hbase hfr => ?_
  refine tr_run ?_
  simp (disch := omega) only [go_sem, ↓reduceIte, za, zb, zc, zd, ze, zf, zg, zh, zi, zj, zk, zl, zm, zn, zo, setOb_ne, dec_t, dec_f, ltI, leI, leN, le63, le40, le0, wrap64_id, wrapu64_id, wrap8_id]
  refine tr_nil (hK _ _ _ ?_)
  clear hK K hbase hfr base
  refine awp_ret ?_
  refine then_r ?_
  refine block_r ?_
  refine then_r ?_
  refine ⟨_, _, rfl, fun _ _ h => h, fun _ h => h, rfl, bb, aa, hob _ hbb, haa, hne2, hne3, hne4, rfl⟩
set_option maxHeartbeats 4000000 in
theorem c39Ro (σ : Sh) (oid rid : Nat) (r : Rd) (hr : σ.ob rid = some (.cells (rdV r))) (hbad : 1 ≤ (rInt 1099511627776 r).1) : ACalls Go.Proofs.Tryz.prog 39 [.ptr oid 0, .str [82], .ptr rid 0] σ (fun r' σ' => ∃ b a, r' = .func (.func 82) [.ptr b 0, .ptr a 0] ∧ σ.ob b = none ∧ σ.ob a = none ∧ b ≠ rid ∧ a ≠ b ∧ a ≠ rid ∧ σ' = ((σ.setOb b (.cells [.ptr oid 0])).setOb rid (.cells (rdV (rInt 1099511627776 r).2))).setOb a (.cells [.int .i64 (rInt 1099511627776 r).1])) := by
  have hltm : decide ((rInt 1099511627776 r).1 < 1) = false := by first | exact decide_eq_true (by omega) | exact decide_eq_false (by omega)
  have hlt : ∀ n, σ.ob n = none → rid ≠ n := fun n hn e => by rw [e, hn] at hr; cases hr
  have hrd : ∀ bb, rid ≠ bb → (σ.setOb bb (.cells [.ptr oid 0])).ob rid = some (.cells (rdV r)) := fun bb hn => by rw [Sh.setOb_ob, if_neg hn]; exact hr
  refine acalls_of_awp Go.Proofs.Tryz.func39 rfl (by decide) (Nat.le_of_ble_eq_true rfl) ?_
  intro B hB hBσ hlv hob
  refine awp_region2_k (fun k => k == 3 || k == 8) (by rw [hB]; rfl) fun K hK base hbase hfr hfo => ?_
  refine tr_run ?_
  simp (disch := omega) only [go_sem, ↓reduceIte, za, zb, zc, zd, ze, zf, zg, zh, zi, zj, zk, zl, zm, zn, zo, setOb_ne, dec_t, dec_f, ltI, leI, leN, le63, le40, le0, wrap64_id, wrapu64_id, wrap8_id]
  refine tr_nil (hK _ _ _ ?_)
  clear hK K hfr
  obtain ⟨bb, hbb, hbe⟩ : ∃ bb, B.g.nt ≤ bb ∧ base = bb := ⟨_, hbase, rfl⟩
  rw [hbe]
  clear hbe hbase hfo base
  have hne : rid ≠ bb := hlt _ (hob _ hbb)
  have hne2 : bb ≠ rid := fun e => hne e.symm
  refine awp_seq ?_
  refine awp_region_k (fun k => k == 3 || k == 8) (by rw [hB]; rfl) fun K hK base hbase hfr => ?_
  refine tr_run ?_
  simp (disch := omega) only [go_sem, ↓reduceIte, za, zb, zc, zd, ze, zf, zg, zh, zi, zj, zk, zl, zm, zn, zo, setOb_ne, dec_t, dec_f, ltI, leI, leN, le63, le40, le0, wrap64_id, wrapu64_id, wrap8_id]
  refine tr_nil (hK _ _ _ ?_)
  clear hK K hbase hfr base
  refine awp_block ?_
  refine awp_region_k (fun k => k == 3 || k == 8) (by rw [hB]; rfl) fun K hK base hbase hfr => ?_
  refine tr_run ?_
  simp (disch := omega) only [go_sem, ↓reduceIte, za, zb, zc, zd, ze, zf, zg, zh, zi, zj, zk, zl, zm, zn, zo, setOb_ne, bc1, dec_t, dec_f, ltI, leI, leN, le63, le40, le0, wrap64_id, wrapu64_id, wrap8_id]
  refine tr_nil (hK _ _ _ ?_)
  clear hK K hbase hfr base
  refine awp_cond (rfl) (fun h1 => by cases h1) (fun h1 => ?_)
  refine awp_region_k (fun k => k == 3 || k == 8) (by rw [hB]; rfl) fun K hK base hbase hfr => ?_
  refine tr_run ?_
  simp (disch := omega) only [go_sem, ↓reduceIte, za, zb, zc, zd, ze, zf, zg, zh, zi, zj, zk, zl, zm, zn, zo, setOb_ne, bc1, dec_t, dec_f, ltI, leI, leN, le63, le40, le0, wrap64_id, wrapu64_id, wrap8_id]
  refine tr_nil (hK _ _ _ ?_)
  clear hK K hbase hfr base
  refine awp_cond (rfl) (fun h2 => ?_) (fun h2 => by cases h2)
  refine awp_region2_k (fun k => k == 3 || k == 8) (by rw [hB]; rfl) fun K hK base hbase hfr hfo => ?_
  refine tr_run ?_
  simp (disch := omega) only [go_sem, ↓reduceIte, za, zb, zc, zd, ze, zf, zg, zh, zi, zj, zk, zl, zm, zn, zo, setOb_ne, dec_t, dec_f, ltI, leI, leN, le63, le40, le0, wrap64_id, wrapu64_id, wrap8_id]
  refine tr_wc (by rfl) (by simp only [go_sem, ↓reduceIte, za, zb, zc, zd, ze, zf, zg, zh, zi, zj, zk, zl, zm, zn, zo, setOb_ne] <;> rfl) (c80 _ rid r 1099511627776 (by decide) (by unfold I63; decide) (hrd _ hne)) ?_
  simp (disch := omega) only [go_sem, ↓reduceIte, za, zb, zc, zd, ze, zf, zg, zh, zi, zj, zk, zl, zm, zn, zo, setOb_ne, dec_t, dec_f, ltI, leI, leN, le63, le40, le0, wrap64_id, wrapu64_id, wrap8_id]
  refine tr_nil (hK _ _ _ ?_)
  clear hK K hfr
  obtain ⟨aa, haf, hae⟩ : ∃ aa, (∀ n, aa ≤ n → (σ.setOb bb (.cells [.ptr oid 0])).ob n = none) ∧ base + 2 = aa := ⟨_, fun n hn => hfo n (by omega), rfl⟩
  have hag : B.g.nt ≤ aa := by omega
  rw [hae]
  clear hae hbase hfo base
  have haa : σ.ob aa = none := hob _ hag
  have hne3 : aa ≠ bb := fun e => by have := haf aa (Nat.le_refl _); rw [e, setOb_same] at this; cases this
  have hne4 : aa ≠ rid := fun e => hlt _ haa e.symm
  clear haf hag
  refine awp_seq ?_
  refine awp_region_k (fun k => k == 3 || k == 8) (by rw [hB]; rfl) fun K hK base hbase hfr => ?_
  refine tr_run ?_
  simp (disch := omega) only [go_sem, ↓reduceIte, za, zb, zc, zd, ze, zf, zg, zh, zi, zj, zk, zl, zm, zn, zo, setOb_ne, hltm, dec_t, dec_f, ltI, leI, leN, le63, le40, le0, wrap64_id, wrapu64_id, wrap8_id]
  refine tr_nil (hK _ _ _ ?_)
  clear hK K hbase hfr base
  refine awp_cond (rfl) (fun h3 => by cases h3) (fun h3 => ?_)
  refine awp_skip ?_
  refine then_n ?_
  refine awp_region_k (fun k => k == 3 || k == 8) (by rw [hB]; rfl) fun K hK base hbase hfr => ?_
  refine tr_run ?_
  simp (disch := omega) only [go_sem, ↓reduceIte, za, zb, zc, zd, ze, zf, zg, zh, zi, zj, zk, zl, zm, zn, zo, setOb_ne, dec_t, dec_f, ltI, leI, leN, le63, le40, le0, wrap64_id, wrapu64_id, wrap8_id]
  refine tr_nil (hK _ _ _ ?_)
  clear hK K hbase hfr base
  refine awp_ret ?_
  refine block_r ?_
  refine then_r ?_
  refine ⟨_, _, rfl, fun _ _ h => h, fun _ h => h, bb, aa, rfl, hob _ hbb, haa, hne2, hne3, hne4, rfl⟩
set_option maxHeartbeats 4000000 in
theorem c34 (σ : Sh) (oid : Nat) (s : St) (hb16 : s.bags.length = 16) (hσ : σ.ob oid = some (.cells (stV s))) : WCalls Go.Proofs.Tryz.prog 34 [.ptr oid 0] σ (.int .i64 s.upto) (σ) := by
  refine wcalls_of_awp Go.Proofs.Tryz.func34 rfl (by decide) (Nat.le_of_ble_eq_true rfl) ?_
  intro B hB ho hob
  refine awp_region_k (fun _ => false) (by rw [hB]; rfl) fun K hK base hbase hfr => ?_
  refine tr_run ?_
  simp (disch := omega) only [go_sem, ↓reduceIte, za, zb, zc, zd, ze, zf, zg, zh, zi, zj, zk, zl, zm, zn, zo, hσ, dec_t, dec_f, ltI, leI, leN, le63, le40, le0, wrap64_id, wrapu64_id, wrap8_id]
  refine tr_nil (hK _ _ _ ?_)
  clear hK K hbase hfr base
  refine awp_seq ?_
  refine awp_region_k (fun _ => false) (by rw [hB]; rfl) fun K hK base hbase hfr => ?_
  refine tr_run ?_
  simp (disch := omega) only [go_sem, ↓reduceIte, za, zb, zc, zd, ze, zf, zg, zh, zi, zj, zk, zl, zm, zn, zo, hσ, dec_t, dec_f, ltI, leI, leN, le63, le40, le0, wrap64_id, wrapu64_id, wrap8_id]
  refine tr_nil (hK _ _ _ ?_)
  clear hK K hbase hfr base
  refine awp_cond (rfl) (fun h1 => by cases h1) (fun h1 => ?_)
  refine awp_skip ?_
  refine then_n ?_
  refine awp_region_k (fun _ => false) (by rw [hB]; rfl) fun K hK base hbase hfr => ?_
  refine tr_run ?_
  simp (disch := omega) only [go_sem, ↓reduceIte, za, zb, zc, zd, ze, zf, zg, zh, zi, zj, zk, zl, zm, zn, zo, hσ, dec_t, dec_f, ltI, leI, leN, le63, le40, le0, wrap64_id, wrapu64_id, wrap8_id]
  refine tr_nil (hK _ _ _ ?_)
  clear hK K hbase hfr base
  refine awp_ret ?_
  refine ⟨_, rfl, ?_, fun _ _ h => h, fun _ h => h⟩
  exact VW.refl _
set_option maxHeartbeats 4000000 in
theorem c35 (σ : Sh) (oid : Nat) (s : St) (hb16 : s.bags.length = 16) (hσ : σ.ob oid = some (.cells (stV s))) : WCalls Go.Proofs.Tryz.prog 35 [.ptr oid 0] σ (.int .i64 s.id) (σ) := by
  refine wcalls_of_awp Go.Proofs.Tryz.func35 rfl (by decide) (Nat.le_of_ble_eq_true rfl) ?_
  intro B hB ho hob
  refine awp_region_k (fun _ => false) (by rw [hB]; rfl) fun K hK base hbase hfr => ?_
  refine tr_run ?_
  simp (disch := omega) only [go_sem, ↓reduceIte, za, zb, zc, zd, ze, zf, zg, zh, zi, zj, zk, zl, zm, zn, zo, hσ, dec_t, dec_f, ltI, leI, leN, le63, le40, le0, wrap64_id, wrapu64_id, wrap8_id]
  refine tr_nil (hK _ _ _ ?_)
  clear hK K hbase hfr base
  refine awp_seq ?_
  refine awp_region_k (fun _ => false) (by rw [hB]; rfl) fun K hK base hbase hfr => ?_
  refine tr_run ?_
  simp (disch := omega) only [go_sem, ↓reduceIte, za, zb, zc, zd, ze, zf, zg, zh, zi, zj, zk, zl, zm, zn, zo, hσ, dec_t, dec_f, ltI, leI, leN, le63, le40, le0, wrap64_id, wrapu64_id, wrap8_id]
  refine tr_nil (hK _ _ _ ?_)
  clear hK K hbase hfr base
  refine awp_cond (rfl) (fun h1 => by cases h1) (fun h1 => ?_)
  refine awp_skip ?_
  refine then_n ?_
  refine awp_region_k (fun _ => false) (by rw [hB]; rfl) fun K hK base hbase hfr => ?_
  refine tr_run ?_
  simp (disch := omega) only [go_sem, ↓reduceIte, za, zb, zc, zd, ze, zf, zg, zh, zi, zj, zk, zl, zm, zn, zo, hσ, dec_t, dec_f, ltI, leI, leN, le63, le40, le0, wrap64_id, wrapu64_id, wrap8_id]
  refine tr_nil (hK _ _ _ ?_)
  clear hK K hbase hfr base
  refine awp_ret ?_
  refine ⟨_, rfl, ?_, fun _ _ h => h, fun _ h => h⟩
  exact VW.refl _

def st0 : St := ⟨0, 0, List.replicate 16 bag0, [], [], []⟩
set_option maxHeartbeats 4000000 in
theorem c10 (σ : Sh) : ACalls Go.Proofs.Tryz.prog 10 [] σ (fun r σ' => ∃ a, σ.ob a = none ∧ r = .ptr a 0 ∧ σ' = σ.setOb a (.cells (stV st0))) := by
  refine acalls_of_awp Go.Proofs.Tryz.func10 rfl (by decide) (Nat.le_of_ble_eq_true rfl) ?_
  intro B hB hBσ hlv hob
  refine awp_region_k (fun k => k == 2) (by rw [hB]; rfl) fun K hK base hbase hfr => ?_
  refine tr_run ?_
  simp (disch := omega) only [go_sem, ↓reduceIte, za, zb, zc, zd, ze, zf, zg, zh, zi, zj, zk, zl, zm, zn, zo, dec_t, dec_f, ltI, leI, leN, le63, le40, le0, wrap64_id, wrapu64_id, wrap8_id]
  refine tr_nil (hK _ _ _ ?_)
  clear hK K hbase hfr base
  refine awp_region_k (fun k => k == 2) (by rw [hB]; rfl) fun K hK base hbase hfr => ?_
  refine tr_run ?_
  simp (disch := omega) only [go_sem, ↓reduceIte, za, zb, zc, zd, ze, zf, zg, zh, zi, zj, zk, zl, zm, zn, zo, dec_t, dec_f, ltI, leI, leN, le63, le40, le0, wrap64_id, wrapu64_id, wrap8_id]
  refine tr_nil (hK _ _ _ ?_)
  clear hK K hfr
  refine awp_obw (base + 1) (ds := stV st0) (setOb_same _ _ _) (by simp only [stV, st0, bagC, bag0, stE, List.replicate, List.flatMap_cons, List.flatMap_nil, List.map_nil, List.nil_append, List.cons_append, List.append_nil]; repeat (first | exact .nil | exact .cons (.refl _) .nil | refine .cons (.no _ _) ?_ | refine .cons (.refl _) ?_)) ?_
  rw [setOb_setOb]
  refine awp_ret ?_
  exact ⟨_, _, rfl, fun _ _ h => h, fun _ h => h, _, hob _ (by omega), rfl, rfl⟩
end Go.Am
namespace Go.Am
open Go
open Nat renaming reduceEqDiff → za, reduceAdd → zb, reduceMul → zc, reducePow → zd, reduceLeDiff → ze, reduceSub → zf, reduceBEq → zg, reduceBNe → zh, reduceDiv → zi, reduceMod → zj
open Int renaming reduceLT → zk, reduceLE → zl, reduceEq → zm, reduceNe → zn, reduceToNat → zo

structure RdOk (σ σ' : Sh) (oid rid b a : Nat) (r' : Rd) (n : Int) : Prop where
  fr : σ'.ob rid = some (.cells (rdV r'))
  fb : σ'.ob b = some (.cells [.ptr oid 0])
  fa : σ'.ob a = some (.cells [.int .i64 n])
  keep : ∀ i o, i ≠ rid → σ.ob i = some o → σ'.ob i = some o
  live : σ'.live = σ.live
theorem rdOk_of {σ : Sh} {oid rid b a : Nat} {r' : Rd} {n : Int} (h1 : σ.ob b = none) (h2 : σ.ob a = none) (h3 : b ≠ rid) (h4 : a ≠ b) (h5 : a ≠ rid) :
    RdOk σ (((σ.setOb b (.cells [.ptr oid 0])).setOb rid (.cells (rdV r'))).setOb a (.cells [.int .i64 n])) oid rid b a r' n where
  fr := by rw [Sh.setOb_ob, if_neg (fun e => h5 e.symm), setOb_same]
  fb := by rw [Sh.setOb_ob, if_neg (fun e => h4 e.symm), Sh.setOb_ob, if_neg h3, setOb_same]
  fa := setOb_same _ _ _
  keep i o hi ho := by
    rw [Sh.setOb_ob, if_neg (fun e => by rw [e, h2] at ho; cases ho), Sh.setOb_ob, if_neg hi, Sh.setOb_ob, if_neg (fun e => by rw [e, h1] at ho; cases ho)]
    exact ho
  live := rfl
section
variable (σ : Sh) (oid rid : Nat) (r : Rd) (hr : σ.ob rid = some (.cells (rdV r)))
include hr
theorem d39Ib (hbad : (rInt 1099511627776 r).1 < 1) : ACalls Go.Proofs.Tryz.prog 39 [.ptr oid 0, .str [73], .ptr rid 0] σ (fun r' σ' => r' = .nilf ∧ ∃ b a, RdOk σ σ' oid rid b a (rInt 1099511627776 r).2 (rInt 1099511627776 r).1) :=
  (c39Ib σ oid rid r hr hbad).mono (by rintro _ _ ⟨rfl, b, a, h1, h2, h3, h4, h5, rfl⟩; exact ⟨rfl, b, a, rdOk_of h1 h2 h3 h4 h5⟩)
theorem d39Io (hbad : 1 ≤ (rInt 1099511627776 r).1) : ACalls Go.Proofs.Tryz.prog 39 [.ptr oid 0, .str [73], .ptr rid 0] σ (fun r' σ' => ∃ b a, r' = .func (.func 81) [.ptr a 0, .ptr b 0] ∧ RdOk σ σ' oid rid b a (rInt 1099511627776 r).2 (rInt 1099511627776 r).1) :=
  (c39Io σ oid rid r hr hbad).mono (by rintro _ _ ⟨b, a, rfl, h1, h2, h3, h4, h5, rfl⟩; exact ⟨b, a, rfl, rdOk_of h1 h2 h3 h4 h5⟩)
theorem d39Rb (hbad : (rInt 1099511627776 r).1 < 1) : ACalls Go.Proofs.Tryz.prog 39 [.ptr oid 0, .str [82], .ptr rid 0] σ (fun r' σ' => r' = .nilf ∧ ∃ b a, RdOk σ σ' oid rid b a (rInt 1099511627776 r).2 (rInt 1099511627776 r).1) :=
  (c39Rb σ oid rid r hr hbad).mono (by rintro _ _ ⟨rfl, b, a, h1, h2, h3, h4, h5, rfl⟩; exact ⟨rfl, b, a, rdOk_of h1 h2 h3 h4 h5⟩)
theorem d39Ro (hbad : 1 ≤ (rInt 1099511627776 r).1) : ACalls Go.Proofs.Tryz.prog 39 [.ptr oid 0, .str [82], .ptr rid 0] σ (fun r' σ' => ∃ b a, r' = .func (.func 82) [.ptr b 0, .ptr a 0] ∧ RdOk σ σ' oid rid b a (rInt 1099511627776 r).2 (rInt 1099511627776 r).1) :=
  (c39Ro σ oid rid r hr hbad).mono (by rintro _ _ ⟨b, a, rfl, h1, h2, h3, h4, h5, rfl⟩; exact ⟨b, a, rfl, rdOk_of h1 h2 h3 h4 h5⟩)
end
theorem beq82 : ((82 : UInt8) == 73) = false := rfl
theorem obs_n {σ σ' : Sh} {oid rid : Nat} {S X0 : Ob} (hσ : σ.ob oid = some S) (hn : σ.ob rid = none) (hk : ∀ i o, i ≠ rid → (σ.setOb rid X0).ob i = some o → σ'.ob i = some o) : ∀ i o, (σ.setOb oid S).ob i = some o → σ'.ob i = some o := by
  intro i o h
  rw [setOb_self hσ] at h
  have hi : i ≠ rid := fun e => by rw [e, hn] at h; cases h
  exact hk i o hi (by rw [Sh.setOb_ob, if_neg hi]; exact h)
theorem obs_c {σ σ' : Sh} {oid rid : Nat} {S S2 X0 : Ob} (hσ : σ.ob oid = some S) (hn : σ.ob rid = none) (hk : ∀ i o, i ≠ rid → (σ.setOb rid X0).ob i = some o → σ'.ob i = some o) : ∀ i o, (σ.setOb oid S2).ob i = some o → (σ'.setOb oid S2).ob i = some o := by
  intro i o h
  rw [Sh.setOb_ob] at h ⊢
  split at h
  · rename_i e; rw [if_pos e]; exact h
  · rename_i e
    rw [if_neg e]
    have hi : i ≠ rid := fun e => by rw [e, hn] at h; cases h
    exact hk i o hi (by rw [Sh.setOb_ob, if_neg hi]; exact h)
theorem st_max (s : St) (n : Int) : ({ s with upto := max s.upto n } : St) = if s.upto < n then { s with upto := n } else s := by
  split
  · rw [Int.max_eq_right (by omega)]
  · rw [Int.max_eq_left (by omega)]
set_option maxHeartbeats 4000000 in
theorem c12Ib (σ : Sh) (oid : Nat) (s : St) (l : List UInt8) (hb16 : s.bags.length = 16) (hid : 0 ≤ s.id ∧ s.id ≤ 1099511627776) (hσ : σ.ob oid = some (.cells (stV s))) (hbad : (rInt 1099511627776 ⟨l, false⟩).1 < 1) : WCalls Go.Proofs.Tryz.prog 12 [.ptr oid 0, .str (73 :: l)] σ (.int .i64 (dApply s (73 :: l)).2) (σ.setOb oid (.cells (stV (dApply s (73 :: l)).1))) := by
  have hM := rInt_le 1099511627776 ⟨l, false⟩ (by decide)
  have hlt : ∀ n, σ.ob n = none → oid ≠ n := fun n hn e => by rw [e, hn] at hσ; cases hσ
  refine wcalls_of_awp Go.Proofs.Tryz.func12 rfl (by decide) (Nat.le_of_ble_eq_true rfl) ?_
  intro B hB ho hob
  refine awp_region_k (fun _ => false) (by rw [hB]; rfl) fun K hK base hbase hfr => ?_
  refine tr_run ?_
  simp (disch := omega) only [go_sem, ↓reduceIte, za, zb, zc, zd, ze, zf, zg, zh, zi, zj, zk, zl, zm, zn, zo, dec_t, dec_f, ltI, leI, leN, le63, le40, le0, wrap64_id, wrapu64_id, wrap8_id]
  refine tr_nil (hK _ _ _ ?_)
  clear hK K hbase hfr base
  refine awp_seq ?_
  refine awp_region_k (fun _ => false) (by rw [hB]; rfl) fun K hK base hbase hfr => ?_
  refine tr_run ?_
  simp (disch := omega) only [go_sem, ↓reduceIte, za, zb, zc, zd, ze, zf, zg, zh, zi, zj, zk, zl, zm, zn, zo, dec_t, dec_f, ltI, leI, leN, le63, le40, le0, wrap64_id, wrapu64_id, wrap8_id]
  refine tr_nil (hK _ _ _ ?_)
  clear hK K hbase hfr base
  refine awp_cond (rfl) (fun h1 => by cases h1) (fun h1 => ?_)
  refine awp_skip ?_
  refine then_n ?_
  refine awp_seq ?_
  refine awp_region_k (fun _ => false) (by rw [hB]; rfl) fun K hK base hbase hfr => ?_
  refine tr_run ?_
  simp (disch := omega) only [go_sem, ↓reduceIte, za, zb, zc, zd, ze, zf, zg, zh, zi, zj, zk, zl, zm, zn, zo, bcn, dec_t, dec_f, ltI, leI, leN, le63, le40, le0, wrap64_id, wrapu64_id, wrap8_id]
  refine tr_nil (hK _ _ _ ?_)
  clear hK K hbase hfr base
  refine awp_cond (rfl) (fun h2 => by cases h2) (fun h2 => ?_)
  refine awp_skip ?_
  refine then_n ?_
  refine awp_region_k (fun _ => false) (by rw [hB]; rfl) fun K hK base hbase hfr => ?_
  refine tr_run ?_
  simp (disch := omega) only [go_sem, ↓reduceIte, za, zb, zc, zd, ze, zf, zg, zh, zi, zj, zk, zl, zm, zn, zo, dec_t, dec_f, ltI, leI, leN, le63, le40, le0, wrap64_id, wrapu64_id, wrap8_id]
  refine tr_nil (hK _ _ _ ?_)
  clear hK K hbase hfr base
  refine awp_region_k (fun _ => false) (by rw [hB]; rfl) fun K hK base hbase hfr => ?_
  refine tr_run ?_
  simp (disch := omega) only [go_sem, ↓reduceIte, za, zb, zc, zd, ze, zf, zg, zh, zi, zj, zk, zl, zm, zn, zo, dec_t, dec_f, ltI, leI, leN, le63, le40, le0, wrap64_id, wrapu64_id, wrap8_id]
  refine tr_acall (c38 σ l) (by rfl) (by simp only [go_sem, ↓reduceIte, za, zb, zc, zd, ze, zf, zg, zh, zi, zj, zk, zl, zm, zn, zo] <;> rfl) ?_
  rintro _ _ ⟨rid, hrid, rfl, rfl⟩
  simp (disch := omega) only [go_sem, ↓reduceIte, za, zb, zc, zd, ze, zf, zg, zh, zi, zj, zk, zl, zm, zn, zo, dec_t, dec_f, ltI, leI, leN, le63, le40, le0, wrap64_id, wrapu64_id, wrap8_id]
  refine tr_nil (hK _ _ _ ?_)
  clear hK K hbase hfr base
  refine awp_region_k (fun _ => false) (by rw [hB]; rfl) fun K hK base hbase hfr => ?_
  refine tr_run ?_
  simp (disch := omega) only [go_sem, ↓reduceIte, za, zb, zc, zd, ze, zf, zg, zh, zi, zj, zk, zl, zm, zn, zo, dec_t, dec_f, ltI, leI, leN, le63, le40, le0, wrap64_id, wrapu64_id, wrap8_id]
  refine tr_acall (d39Ib _ oid rid ⟨l, false⟩ (setOb_same _ _ _) hbad) (by rfl) (by simp only [go_sem, ↓reduceIte, za, zb, zc, zd, ze, zf, zg, zh, zi, zj, zk, zl, zm, zn, zo] <;> rfl) ?_
  rintro _ σ' ⟨rfl, b, a, hro⟩
  simp (disch := omega) only [go_sem, ↓reduceIte, za, zb, zc, zd, ze, zf, zg, zh, zi, zj, zk, zl, zm, zn, zo, dec_t, dec_f, ltI, leI, leN, le63, le40, le0, wrap64_id, wrapu64_id, wrap8_id]
  refine tr_nil (hK _ _ _ ?_)
  clear hK K hbase hfr base
  have hoo := hro.keep oid _ (hlt _ hrid) (by rw [Sh.setOb_ob, if_neg (hlt _ hrid)]; exact hσ)
  refine awp_seq ?_
  refine awp_block ?_
  refine awp_region_k (fun _ => false) (by rw [hB]; rfl) fun K hK base hbase hfr => ?_
  refine tr_run ?_
  simp (disch := omega) only [go_sem, ↓reduceIte, za, zb, zc, zd, ze, zf, zg, zh, zi, zj, zk, zl, zm, zn, zo, dec_t, dec_f, ltI, leI, leN, le63, le40, le0, wrap64_id, wrapu64_id, wrap8_id]
  refine tr_nil (hK _ _ _ ?_)
  clear hK K hbase hfr base
  refine awp_cond (rfl) (fun h3 => ?_) (fun h3 => by cases h3)
  refine awp_region_k (fun _ => false) (by rw [hB]; rfl) fun K hK base hbase hfr => ?_
  refine tr_run ?_
  simp (disch := omega) only [go_sem, ↓reduceIte, za, zb, zc, zd, ze, zf, zg, zh, zi, zj, zk, zl, zm, zn, zo, dec_t, dec_f, ltI, leI, leN, le63, le40, le0, wrap64_id, wrapu64_id, wrap8_id]
  refine tr_nil (hK _ _ _ ?_)
  clear hK K hbase hfr base
  refine awp_ret ?_
  refine block_r ?_
  refine then_r ?_
  have e : dApply s (73 :: l) = (s, 10) := by rw [dApply, if_pos rfl, dI, if_pos (.inr (by omega))]
  rw [e]
  exact ⟨_, rfl, VW.refl _, obs_n hσ hrid hro.keep, fun t ht => by show t ∈ σ'.live; rw [hro.live]; exact ht⟩
set_option maxHeartbeats 4000000 in
theorem c12Io (σ : Sh) (oid : Nat) (s : St) (l : List UInt8) (hb16 : s.bags.length = 16) (hid : 0 ≤ s.id ∧ s.id ≤ 1099511627776) (hσ : σ.ob oid = some (.cells (stV s))) (hbad : 1 ≤ (rInt 1099511627776 ⟨l, false⟩).1) : WCalls Go.Proofs.Tryz.prog 12 [.ptr oid 0, .str (73 :: l)] σ (.int .i64 (dApply s (73 :: l)).2) (σ.setOb oid (.cells (stV (dApply s (73 :: l)).1))) := by
  have hM := rInt_le 1099511627776 ⟨l, false⟩ (by decide)
  have hlt : ∀ n, σ.ob n = none → oid ≠ n := fun n hn e => by rw [e, hn] at hσ; cases hσ
  refine wcalls_of_awp Go.Proofs.Tryz.func12 rfl (by decide) (Nat.le_of_ble_eq_true rfl) ?_
  intro B hB ho hob
  refine awp_region_k (fun _ => false) (by rw [hB]; rfl) fun K hK base hbase hfr => ?_
  refine tr_run ?_
  simp (disch := omega) only [go_sem, ↓reduceIte, za, zb, zc, zd, ze, zf, zg, zh, zi, zj, zk, zl, zm, zn, zo, dec_t, dec_f, ltI, leI, leN, le63, le40, le0, wrap64_id, wrapu64_id, wrap8_id]
  refine tr_nil (hK _ _ _ ?_)
  clear hK K hbase hfr base
  refine awp_seq ?_
  refine awp_region_k (fun _ => false) (by rw [hB]; rfl) fun K hK base hbase hfr => ?_
  refine tr_run ?_
  simp (disch := omega) only [go_sem, ↓reduceIte, za, zb, zc, zd, ze, zf, zg, zh, zi, zj, zk, zl, zm, zn, zo, dec_t, dec_f, ltI, leI, leN, le63, le40, le0, wrap64_id, wrapu64_id, wrap8_id]
  refine tr_nil (hK _ _ _ ?_)
  clear hK K hbase hfr base
  refine awp_cond (rfl) (fun h1 => by cases h1) (fun h1 => ?_)
  refine awp_skip ?_
  refine then_n ?_
  refine awp_seq ?_
  refine awp_region_k (fun _ => false) (by rw [hB]; rfl) fun K hK base hbase hfr => ?_
  refine tr_run ?_
  simp (disch := omega) only [go_sem, ↓reduceIte, za, zb, zc, zd, ze, zf, zg, zh, zi, zj, zk, zl, zm, zn, zo, bcn, dec_t, dec_f, ltI, leI, leN, le63, le40, le0, wrap64_id, wrapu64_id, wrap8_id]
  refine tr_nil (hK _ _ _ ?_)
  clear hK K hbase hfr base
  refine awp_cond (rfl) (fun h2 => by cases h2) (fun h2 => ?_)
  refine awp_skip ?_
  refine then_n ?_
  refine awp_region_k (fun _ => false) (by rw [hB]; rfl) fun K hK base hbase hfr => ?_
  refine tr_run ?_
  simp (disch := omega) only [go_sem, ↓reduceIte, za, zb, zc, zd, ze, zf, zg, zh, zi, zj, zk, zl, zm, zn, zo, dec_t, dec_f, ltI, leI, leN, le63, le40, le0, wrap64_id, wrapu64_id, wrap8_id]
  refine tr_nil (hK _ _ _ ?_)
  clear hK K hbase hfr base
  refine awp_region_k (fun _ => false) (by rw [hB]; rfl) fun K hK base hbase hfr => ?_
  refine tr_run ?_
  simp (disch := omega) only [go_sem, ↓reduceIte, za, zb, zc, zd, ze, zf, zg, zh, zi, zj, zk, zl, zm, zn, zo, dec_t, dec_f, ltI, leI, leN, le63, le40, le0, wrap64_id, wrapu64_id, wrap8_id]
  refine tr_acall (c38 σ l) (by rfl) (by simp only [go_sem, ↓reduceIte, za, zb, zc, zd, ze, zf, zg, zh, zi, zj, zk, zl, zm, zn, zo] <;> rfl) ?_
  rintro _ _ ⟨rid, hrid, rfl, rfl⟩
  simp (disch := omega) only [go_sem, ↓reduceIte, za, zb, zc, zd, ze, zf, zg, zh, zi, zj, zk, zl, zm, zn, zo, dec_t, dec_f, ltI, leI, leN, le63, le40, le0, wrap64_id, wrapu64_id, wrap8_id]
  refine tr_nil (hK _ _ _ ?_)
  clear hK K hbase hfr base
  refine awp_region_k (fun _ => false) (by rw [hB]; rfl) fun K hK base hbase hfr => ?_
  refine tr_run ?_
  simp (disch := omega) only [go_sem, ↓reduceIte, za, zb, zc, zd, ze, zf, zg, zh, zi, zj, zk, zl, zm, zn, zo, dec_t, dec_f, ltI, leI, leN, le63, le40, le0, wrap64_id, wrapu64_id, wrap8_id]
  refine tr_acall (d39Io _ oid rid ⟨l, false⟩ (setOb_same _ _ _) hbad) (by rfl) (by simp only [go_sem, ↓reduceIte, za, zb, zc, zd, ze, zf, zg, zh, zi, zj, zk, zl, zm, zn, zo] <;> rfl) ?_
  rintro _ σ' ⟨b, a, rfl, hro⟩
  simp (disch := omega) only [go_sem, ↓reduceIte, za, zb, zc, zd, ze, zf, zg, zh, zi, zj, zk, zl, zm, zn, zo, dec_t, dec_f, ltI, leI, leN, le63, le40, le0, wrap64_id, wrapu64_id, wrap8_id]
  refine tr_nil (hK _ _ _ ?_)
  clear hK K hbase hfr base
  have hoo := hro.keep oid _ (hlt _ hrid) (by rw [Sh.setOb_ob, if_neg (hlt _ hrid)]; exact hσ)
  refine awp_seq ?_
  refine awp_block ?_
  refine awp_region_k (fun _ => false) (by rw [hB]; rfl) fun K hK base hbase hfr => ?_
  refine tr_run ?_
  simp (disch := omega) only [go_sem, ↓reduceIte, za, zb, zc, zd, ze, zf, zg, zh, zi, zj, zk, zl, zm, zn, zo, dec_t, dec_f, ltI, leI, leN, le63, le40, le0, wrap64_id, wrapu64_id, wrap8_id]
  refine tr_wc (by simp only [go_sem, ↓reduceIte, za, zb, zc, zd, ze, zf, zg, zh, zi, zj, zk, zl, zm, zn, zo]) (by simp only [go_sem, ↓reduceIte, za, zb, zc, zd, ze, zf, zg, zh, zi, zj, zk, zl, zm, zn, zo] <;> rfl) (c40 _ rid (rInt 1099511627776 ⟨l, false⟩).2 hro.fr) ?_
  simp (disch := omega) only [go_sem, ↓reduceIte, za, zb, zc, zd, ze, zf, zg, zh, zi, zj, zk, zl, zm, zn, zo, dec_t, dec_f, ltI, leI, leN, le63, le40, le0, wrap64_id, wrapu64_id, wrap8_id]
  refine tr_nil (hK _ _ _ ?_)
  clear hK K hbase hfr base
  refine awp_cond (rfl) (fun h3 => ?_) (fun h3 => ?_)
  · try simp only [yb, yc, yd, ye, yf, yg, yh, yi, yj, yk, yl, ym, yn, yo] at h3
    refine awp_region_k (fun _ => false) (by rw [hB]; rfl) fun K hK base hbase hfr => ?_
    refine tr_run ?_
    simp (disch := omega) only [go_sem, ↓reduceIte, za, zb, zc, zd, ze, zf, zg, zh, zi, zj, zk, zl, zm, zn, zo, dec_t, dec_f, ltI, leI, leN, le63, le40, le0, wrap64_id, wrapu64_id, wrap8_id]
    refine tr_nil (hK _ _ _ ?_)
    clear hK K hbase hfr base
    refine awp_ret ?_
    refine block_r ?_
    refine then_r ?_
    have e : dApply s (73 :: l) = (s, 10) := by rw [dApply, if_pos rfl, dI, if_pos (.inl (by assumption))]
    rw [e]
    exact ⟨_, rfl, VW.refl _, obs_n hσ hrid hro.keep, fun t ht => by show t ∈ σ'.live; rw [hro.live]; exact ht⟩
  · try simp only [yb, yc, yd, ye, yf, yg, yh, yi, yj, yk, yl, ym, yn, yo] at h3
    obtain ⟨hz1, hz2⟩ := rEnd_zero.1 (by assumption)
    have hl := (rInt_inv hz1).2
    rw [hz2, List.append_nil] at hl
    refine awp_region_k (fun _ => false) (by rw [hB]; rfl) fun K hK base hbase hfr => ?_
    rcases q4 : (s.id != 0) with _ | _
    · skip
      refine tr_run ?_
      simp (disch := omega) only [go_sem, ↓reduceIte, za, zb, zc, zd, ze, zf, zg, zh, zi, zj, zk, zl, zm, zn, zo, bc1, beq82, hoo, q4, dec_t, dec_f, ltI, leI, leN, le63, le40, le0, wrap64_id, wrapu64_id, wrap8_id]
      refine tr_nil (hK _ _ _ ?_)
      clear hK K hbase hfr base
      try simp only [yb, yc, yd, ye, yf, yg, yh, yi, yj, yk, yl, ym, yn, yo] at q4
      refine awp_cond (rfl) (fun h5 => by cases h5) (fun h5 => ?_)
      refine awp_skip ?_
      refine block_n ?_
      refine then_n ?_
      refine awp_region_k (fun _ => false) (by rw [hB]; rfl) fun K hK base hbase hfr => ?_
      refine tr_run ?_
      simp (disch := omega) only [go_sem, ↓reduceIte, za, zb, zc, zd, ze, zf, zg, zh, zi, zj, zk, zl, zm, zn, zo, dec_t, dec_f, ltI, leI, leN, le63, le40, le0, wrap64_id, wrapu64_id, wrap8_id]
      refine tr_wc (by rfl) (by simp only [go_sem, ↓reduceIte, za, zb, zc, zd, ze, zf, zg, zh, zi, zj, zk, zl, zm, zn, zo] <;> rfl) (c81 σ' oid a b s (rInt 1099511627776 ⟨l, false⟩).1 hb16 hro.fa hro.fb hoo) ?_
      simp (disch := omega) only [go_sem, ↓reduceIte, za, zb, zc, zd, ze, zf, zg, zh, zi, zj, zk, zl, zm, zn, zo, dec_t, dec_f, ltI, leI, leN, le63, le40, le0, wrap64_id, wrapu64_id, wrap8_id]
      refine tr_nil (hK _ _ _ ?_)
      clear hK K hbase hfr base
      refine awp_region_k (fun _ => false) (by rw [hB]; rfl) fun K hK base hbase hfr => ?_
      refine tr_run ?_
      simp (disch := omega) only [go_sem, ↓reduceIte, za, zb, zc, zd, ze, zf, zg, zh, zi, zj, zk, zl, zm, zn, zo, dec_t, dec_f, ltI, leI, leN, le63, le40, le0, wrap64_id, wrapu64_id, wrap8_id]
      refine tr_nil (hK _ _ _ ?_)
      clear hK K hbase hfr base
      refine awp_ret ?_
      have e : dApply s (73 :: l) = ({ s with id := (rInt 1099511627776 ⟨l, false⟩).1 }, 0) := by rw [dApply, if_pos rfl, dI, if_neg (by omega), if_neg (by omega)]
      rw [e]
      exact ⟨_, rfl, VW.refl _, obs_c hσ hrid hro.keep, fun t ht => by show t ∈ σ'.live; rw [hro.live]; exact ht⟩
    · skip
      refine tr_run ?_
      simp (disch := omega) only [go_sem, ↓reduceIte, za, zb, zc, zd, ze, zf, zg, zh, zi, zj, zk, zl, zm, zn, zo, bc1, beq82, hoo, q4, dec_t, dec_f, ltI, leI, leN, le63, le40, le0, wrap64_id, wrapu64_id, wrap8_id]
      refine tr_pc (by simp only [go_sem, ↓reduceIte, za, zb, zc, zd, ze, zf, zg, zh, zi, zj, zk, zl, zm, zn, zo, bc1, beq82, hoo, q4]) (by simp only [go_sem, ↓reduceIte, za, zb, zc, zd, ze, zf, zg, zh, zi, zj, zk, zl, zm, zn, zo, bc1, beq82, hoo, q4] <;> rfl) (c17 s.id (by unfold I63; omega)) ?_
      simp (disch := omega) only [go_sem, ↓reduceIte, za, zb, zc, zd, ze, zf, zg, zh, zi, zj, zk, zl, zm, zn, zo, bc1, beq82, hoo, q4, dec_t, dec_f, ltI, leI, leN, le63, le40, le0, wrap64_id, wrapu64_id, wrap8_id]
      refine tr_nil (hK _ _ _ ?_)
      clear hK K hbase hfr base
      try simp only [yb, yc, yd, ye, yf, yg, yh, yi, yj, yk, yl, ym, yn, yo] at q4
      refine awp_cond (rfl) (fun h6 => ?_) (fun h6 => ?_)
      · try simp only [yb, yc, yd, ye, yf, yg, yh, yi, yj, yk, yl, ym, yn, yo] at h6
        have hbr := h6
        refine awp_region_k (fun _ => false) (by rw [hB]; rfl) fun K hK base hbase hfr => ?_
        refine tr_run ?_
        simp (disch := omega) only [go_sem, ↓reduceIte, za, zb, zc, zd, ze, zf, zg, zh, zi, zj, zk, zl, zm, zn, zo, dec_t, dec_f, ltI, leI, leN, le63, le40, le0, wrap64_id, wrapu64_id, wrap8_id]
        refine tr_nil (hK _ _ _ ?_)
        clear hK K hbase hfr base
        refine awp_ret ?_
        refine block_r ?_
        refine then_r ?_
        have e : dApply s (73 :: l) = (s, 13) := by rw [dApply, if_pos rfl, dI, if_neg (by omega), if_pos ⟨by assumption, fun e => hbr (by rw [e]; exact congrArg _ hl.symm)⟩]
        rw [e]
        exact ⟨_, rfl, VW.refl _, obs_n hσ hrid hro.keep, fun t ht => by show t ∈ σ'.live; rw [hro.live]; exact ht⟩
      · try simp only [yb, yc, yd, ye, yf, yg, yh, yi, yj, yk, yl, ym, yn, yo] at h6
        have hbr := h6
        refine awp_skip ?_
        refine block_n ?_
        refine then_n ?_
        refine awp_region_k (fun _ => false) (by rw [hB]; rfl) fun K hK base hbase hfr => ?_
        refine tr_run ?_
        simp (disch := omega) only [go_sem, ↓reduceIte, za, zb, zc, zd, ze, zf, zg, zh, zi, zj, zk, zl, zm, zn, zo, dec_t, dec_f, ltI, leI, leN, le63, le40, le0, wrap64_id, wrapu64_id, wrap8_id]
        refine tr_wc (by rfl) (by simp only [go_sem, ↓reduceIte, za, zb, zc, zd, ze, zf, zg, zh, zi, zj, zk, zl, zm, zn, zo] <;> rfl) (c81 σ' oid a b s (rInt 1099511627776 ⟨l, false⟩).1 hb16 hro.fa hro.fb hoo) ?_
        simp (disch := omega) only [go_sem, ↓reduceIte, za, zb, zc, zd, ze, zf, zg, zh, zi, zj, zk, zl, zm, zn, zo, dec_t, dec_f, ltI, leI, leN, le63, le40, le0, wrap64_id, wrapu64_id, wrap8_id]
        refine tr_nil (hK _ _ _ ?_)
        clear hK K hbase hfr base
        refine awp_region_k (fun _ => false) (by rw [hB]; rfl) fun K hK base hbase hfr => ?_
        refine tr_run ?_
        simp (disch := omega) only [go_sem, ↓reduceIte, za, zb, zc, zd, ze, zf, zg, zh, zi, zj, zk, zl, zm, zn, zo, dec_t, dec_f, ltI, leI, leN, le63, le40, le0, wrap64_id, wrapu64_id, wrap8_id]
        refine tr_nil (hK _ _ _ ?_)
        clear hK K hbase hfr base
        refine awp_ret ?_
        have e : dApply s (73 :: l) = ({ s with id := (rInt 1099511627776 ⟨l, false⟩).1 }, 0) := by rw [dApply, if_pos rfl, dI, if_neg (by omega), if_neg (by rintro ⟨_, h2⟩; exact h2 (numI_inj hid.1 hM.1 (by omega) (by omega) (by have := (List.cons.inj hbr).2; rw [this]; exact hl)))]
        rw [e]
        exact ⟨_, rfl, VW.refl _, obs_c hσ hrid hro.keep, fun t ht => by show t ∈ σ'.live; rw [hro.live]; exact ht⟩
set_option maxHeartbeats 4000000 in
theorem c12Rb (σ : Sh) (oid : Nat) (s : St) (l : List UInt8) (hb16 : s.bags.length = 16) (hid : 0 ≤ s.id ∧ s.id ≤ 1099511627776) (hσ : σ.ob oid = some (.cells (stV s))) (hbad : (rInt 1099511627776 ⟨l, false⟩).1 < 1) : WCalls Go.Proofs.Tryz.prog 12 [.ptr oid 0, .str (82 :: l)] σ (.int .i64 (dApply s (82 :: l)).2) (σ.setOb oid (.cells (stV (dApply s (82 :: l)).1))) := by
  have hM := rInt_le 1099511627776 ⟨l, false⟩ (by decide)
  have hlt : ∀ n, σ.ob n = none → oid ≠ n := fun n hn e => by rw [e, hn] at hσ; cases hσ
  refine wcalls_of_awp Go.Proofs.Tryz.func12 rfl (by decide) (Nat.le_of_ble_eq_true rfl) ?_
  intro B hB ho hob
  refine awp_region_k (fun _ => false) (by rw [hB]; rfl) fun K hK base hbase hfr => ?_
  refine tr_run ?_
  simp (disch := omega) only [go_sem, ↓reduceIte, za, zb, zc, zd, ze, zf, zg, zh, zi, zj, zk, zl, zm, zn, zo, dec_t, dec_f, ltI, leI, leN, le63, le40, le0, wrap64_id, wrapu64_id, wrap8_id]
  refine tr_nil (hK _ _ _ ?_)
  clear hK K hbase hfr base
  refine awp_seq ?_
  refine awp_region_k (fun _ => false) (by rw [hB]; rfl) fun K hK base hbase hfr => ?_
  refine tr_run ?_
  simp (disch := omega) only [go_sem, ↓reduceIte, za, zb, zc, zd, ze, zf, zg, zh, zi, zj, zk, zl, zm, zn, zo, dec_t, dec_f, ltI, leI, leN, le63, le40, le0, wrap64_id, wrapu64_id, wrap8_id]
  refine tr_nil (hK _ _ _ ?_)
  clear hK K hbase hfr base
  refine awp_cond (rfl) (fun h1 => by cases h1) (fun h1 => ?_)
  refine awp_skip ?_
  refine then_n ?_
  refine awp_seq ?_
  refine awp_region_k (fun _ => false) (by rw [hB]; rfl) fun K hK base hbase hfr => ?_
  refine tr_run ?_
  simp (disch := omega) only [go_sem, ↓reduceIte, za, zb, zc, zd, ze, zf, zg, zh, zi, zj, zk, zl, zm, zn, zo, bcn, dec_t, dec_f, ltI, leI, leN, le63, le40, le0, wrap64_id, wrapu64_id, wrap8_id]
  refine tr_nil (hK _ _ _ ?_)
  clear hK K hbase hfr base
  refine awp_cond (rfl) (fun h2 => by cases h2) (fun h2 => ?_)
  refine awp_skip ?_
  refine then_n ?_
  refine awp_region_k (fun _ => false) (by rw [hB]; rfl) fun K hK base hbase hfr => ?_
  refine tr_run ?_
  simp (disch := omega) only [go_sem, ↓reduceIte, za, zb, zc, zd, ze, zf, zg, zh, zi, zj, zk, zl, zm, zn, zo, dec_t, dec_f, ltI, leI, leN, le63, le40, le0, wrap64_id, wrapu64_id, wrap8_id]
  refine tr_nil (hK _ _ _ ?_)
  clear hK K hbase hfr base
  refine awp_region_k (fun _ => false) (by rw [hB]; rfl) fun K hK base hbase hfr => ?_
  refine tr_run ?_
  simp (disch := omega) only [go_sem, ↓reduceIte, za, zb, zc, zd, ze, zf, zg, zh, zi, zj, zk, zl, zm, zn, zo, dec_t, dec_f, ltI, leI, leN, le63, le40, le0, wrap64_id, wrapu64_id, wrap8_id]
  refine tr_acall (c38 σ l) (by rfl) (by simp only [go_sem, ↓reduceIte, za, zb, zc, zd, ze, zf, zg, zh, zi, zj, zk, zl, zm, zn, zo] <;> rfl) ?_
  rintro _ _ ⟨rid, hrid, rfl, rfl⟩
  simp (disch := omega) only [go_sem, ↓reduceIte, za, zb, zc, zd, ze, zf, zg, zh, zi, zj, zk, zl, zm, zn, zo, dec_t, dec_f, ltI, leI, leN, le63, le40, le0, wrap64_id, wrapu64_id, wrap8_id]
  refine tr_nil (hK _ _ _ ?_)
  clear hK K hbase hfr base
  refine awp_region_k (fun _ => false) (by rw [hB]; rfl) fun K hK base hbase hfr => ?_
  refine tr_run ?_
  simp (disch := omega) only [go_sem, ↓reduceIte, za, zb, zc, zd, ze, zf, zg, zh, zi, zj, zk, zl, zm, zn, zo, dec_t, dec_f, ltI, leI, leN, le63, le40, le0, wrap64_id, wrapu64_id, wrap8_id]
  refine tr_acall (d39Rb _ oid rid ⟨l, false⟩ (setOb_same _ _ _) hbad) (by rfl) (by simp only [go_sem, ↓reduceIte, za, zb, zc, zd, ze, zf, zg, zh, zi, zj, zk, zl, zm, zn, zo] <;> rfl) ?_
  rintro _ σ' ⟨rfl, b, a, hro⟩
  simp (disch := omega) only [go_sem, ↓reduceIte, za, zb, zc, zd, ze, zf, zg, zh, zi, zj, zk, zl, zm, zn, zo, dec_t, dec_f, ltI, leI, leN, le63, le40, le0, wrap64_id, wrapu64_id, wrap8_id]
  refine tr_nil (hK _ _ _ ?_)
  clear hK K hbase hfr base
  have hoo := hro.keep oid _ (hlt _ hrid) (by rw [Sh.setOb_ob, if_neg (hlt _ hrid)]; exact hσ)
  refine awp_seq ?_
  refine awp_block ?_
  refine awp_region_k (fun _ => false) (by rw [hB]; rfl) fun K hK base hbase hfr => ?_
  refine tr_run ?_
  simp (disch := omega) only [go_sem, ↓reduceIte, za, zb, zc, zd, ze, zf, zg, zh, zi, zj, zk, zl, zm, zn, zo, dec_t, dec_f, ltI, leI, leN, le63, le40, le0, wrap64_id, wrapu64_id, wrap8_id]
  refine tr_nil (hK _ _ _ ?_)
  clear hK K hbase hfr base
  refine awp_cond (rfl) (fun h3 => ?_) (fun h3 => by cases h3)
  refine awp_region_k (fun _ => false) (by rw [hB]; rfl) fun K hK base hbase hfr => ?_
  refine tr_run ?_
  simp (disch := omega) only [go_sem, ↓reduceIte, za, zb, zc, zd, ze, zf, zg, zh, zi, zj, zk, zl, zm, zn, zo, dec_t, dec_f, ltI, leI, leN, le63, le40, le0, wrap64_id, wrapu64_id, wrap8_id]
  refine tr_nil (hK _ _ _ ?_)
  clear hK K hbase hfr base
  refine awp_ret ?_
  refine block_r ?_
  refine then_r ?_
  have e : dApply s (82 :: l) = (s, 10) := by rw [dApply, if_neg (by decide), if_pos rfl, dR, if_pos (.inr (by omega))]
  rw [e]
  exact ⟨_, rfl, VW.refl _, obs_n hσ hrid hro.keep, fun t ht => by show t ∈ σ'.live; rw [hro.live]; exact ht⟩
set_option maxHeartbeats 4000000 in
theorem c12Ro (σ : Sh) (oid : Nat) (s : St) (l : List UInt8) (hb16 : s.bags.length = 16) (hid : 0 ≤ s.id ∧ s.id ≤ 1099511627776) (hσ : σ.ob oid = some (.cells (stV s))) (hbad : 1 ≤ (rInt 1099511627776 ⟨l, false⟩).1) : WCalls Go.Proofs.Tryz.prog 12 [.ptr oid 0, .str (82 :: l)] σ (.int .i64 (dApply s (82 :: l)).2) (σ.setOb oid (.cells (stV (dApply s (82 :: l)).1))) := by
  have hM := rInt_le 1099511627776 ⟨l, false⟩ (by decide)
  have hlt : ∀ n, σ.ob n = none → oid ≠ n := fun n hn e => by rw [e, hn] at hσ; cases hσ
  refine wcalls_of_awp Go.Proofs.Tryz.func12 rfl (by decide) (Nat.le_of_ble_eq_true rfl) ?_
  intro B hB ho hob
  refine awp_region_k (fun _ => false) (by rw [hB]; rfl) fun K hK base hbase hfr => ?_
  refine tr_run ?_
  simp (disch := omega) only [go_sem, ↓reduceIte, za, zb, zc, zd, ze, zf, zg, zh, zi, zj, zk, zl, zm, zn, zo, dec_t, dec_f, ltI, leI, leN, le63, le40, le0, wrap64_id, wrapu64_id, wrap8_id]
  refine tr_nil (hK _ _ _ ?_)
  clear hK K hbase hfr base
  refine awp_seq ?_
  refine awp_region_k (fun _ => false) (by rw [hB]; rfl) fun K hK base hbase hfr => ?_
  refine tr_run ?_
  simp (disch := omega) only [go_sem, ↓reduceIte, za, zb, zc, zd, ze, zf, zg, zh, zi, zj, zk, zl, zm, zn, zo, dec_t, dec_f, ltI, leI, leN, le63, le40, le0, wrap64_id, wrapu64_id, wrap8_id]
  refine tr_nil (hK _ _ _ ?_)
  clear hK K hbase hfr base
  refine awp_cond (rfl) (fun h1 => by cases h1) (fun h1 => ?_)
  refine awp_skip ?_
  refine then_n ?_
  refine awp_seq ?_
  refine awp_region_k (fun _ => false) (by rw [hB]; rfl) fun K hK base hbase hfr => ?_
  refine tr_run ?_
  simp (disch := omega) only [go_sem, ↓reduceIte, za, zb, zc, zd, ze, zf, zg, zh, zi, zj, zk, zl, zm, zn, zo, bcn, dec_t, dec_f, ltI, leI, leN, le63, le40, le0, wrap64_id, wrapu64_id, wrap8_id]
  refine tr_nil (hK _ _ _ ?_)
  clear hK K hbase hfr base
  refine awp_cond (rfl) (fun h2 => by cases h2) (fun h2 => ?_)
  refine awp_skip ?_
  refine then_n ?_
  refine awp_region_k (fun _ => false) (by rw [hB]; rfl) fun K hK base hbase hfr => ?_
  refine tr_run ?_
  simp (disch := omega) only [go_sem, ↓reduceIte, za, zb, zc, zd, ze, zf, zg, zh, zi, zj, zk, zl, zm, zn, zo, dec_t, dec_f, ltI, leI, leN, le63, le40, le0, wrap64_id, wrapu64_id, wrap8_id]
  refine tr_nil (hK _ _ _ ?_)
  clear hK K hbase hfr base
  refine awp_region_k (fun _ => false) (by rw [hB]; rfl) fun K hK base hbase hfr => ?_
  refine tr_run ?_
  simp (disch := omega) only [go_sem, ↓reduceIte, za, zb, zc, zd, ze, zf, zg, zh, zi, zj, zk, zl, zm, zn, zo, dec_t, dec_f, ltI, leI, leN, le63, le40, le0, wrap64_id, wrapu64_id, wrap8_id]
  refine tr_acall (c38 σ l) (by rfl) (by simp only [go_sem, ↓reduceIte, za, zb, zc, zd, ze, zf, zg, zh, zi, zj, zk, zl, zm, zn, zo] <;> rfl) ?_
  rintro _ _ ⟨rid, hrid, rfl, rfl⟩
  simp (disch := omega) only [go_sem, ↓reduceIte, za, zb, zc, zd, ze, zf, zg, zh, zi, zj, zk, zl, zm, zn, zo, dec_t, dec_f, ltI, leI, leN, le63, le40, le0, wrap64_id, wrapu64_id, wrap8_id]
  refine tr_nil (hK _ _ _ ?_)
  clear hK K hbase hfr base
  refine awp_region_k (fun _ => false) (by rw [hB]; rfl) fun K hK base hbase hfr => ?_
  refine tr_run ?_
  simp (disch := omega) only [go_sem, ↓reduceIte, za, zb, zc, zd, ze, zf, zg, zh, zi, zj, zk, zl, zm, zn, zo, dec_t, dec_f, ltI, leI, leN, le63, le40, le0, wrap64_id, wrapu64_id, wrap8_id]
  refine tr_acall (d39Ro _ oid rid ⟨l, false⟩ (setOb_same _ _ _) hbad) (by rfl) (by simp only [go_sem, ↓reduceIte, za, zb, zc, zd, ze, zf, zg, zh, zi, zj, zk, zl, zm, zn, zo] <;> rfl) ?_
  rintro _ σ' ⟨b, a, rfl, hro⟩
  simp (disch := omega) only [go_sem, ↓reduceIte, za, zb, zc, zd, ze, zf, zg, zh, zi, zj, zk, zl, zm, zn, zo, dec_t, dec_f, ltI, leI, leN, le63, le40, le0, wrap64_id, wrapu64_id, wrap8_id]
  refine tr_nil (hK _ _ _ ?_)
  clear hK K hbase hfr base
  have hoo := hro.keep oid _ (hlt _ hrid) (by rw [Sh.setOb_ob, if_neg (hlt _ hrid)]; exact hσ)
  refine awp_seq ?_
  refine awp_block ?_
  refine awp_region_k (fun _ => false) (by rw [hB]; rfl) fun K hK base hbase hfr => ?_
  refine tr_run ?_
  simp (disch := omega) only [go_sem, ↓reduceIte, za, zb, zc, zd, ze, zf, zg, zh, zi, zj, zk, zl, zm, zn, zo, dec_t, dec_f, ltI, leI, leN, le63, le40, le0, wrap64_id, wrapu64_id, wrap8_id]
  refine tr_wc (by simp only [go_sem, ↓reduceIte, za, zb, zc, zd, ze, zf, zg, zh, zi, zj, zk, zl, zm, zn, zo]) (by simp only [go_sem, ↓reduceIte, za, zb, zc, zd, ze, zf, zg, zh, zi, zj, zk, zl, zm, zn, zo] <;> rfl) (c40 _ rid (rInt 1099511627776 ⟨l, false⟩).2 hro.fr) ?_
  simp (disch := omega) only [go_sem, ↓reduceIte, za, zb, zc, zd, ze, zf, zg, zh, zi, zj, zk, zl, zm, zn, zo, dec_t, dec_f, ltI, leI, leN, le63, le40, le0, wrap64_id, wrapu64_id, wrap8_id]
  refine tr_nil (hK _ _ _ ?_)
  clear hK K hbase hfr base
  refine awp_cond (rfl) (fun h3 => ?_) (fun h3 => ?_)
  · try simp only [yb, yc, yd, ye, yf, yg, yh, yi, yj, yk, yl, ym, yn, yo] at h3
    refine awp_region_k (fun _ => false) (by rw [hB]; rfl) fun K hK base hbase hfr => ?_
    refine tr_run ?_
    simp (disch := omega) only [go_sem, ↓reduceIte, za, zb, zc, zd, ze, zf, zg, zh, zi, zj, zk, zl, zm, zn, zo, dec_t, dec_f, ltI, leI, leN, le63, le40, le0, wrap64_id, wrapu64_id, wrap8_id]
    refine tr_nil (hK _ _ _ ?_)
    clear hK K hbase hfr base
    refine awp_ret ?_
    refine block_r ?_
    refine then_r ?_
    have e : dApply s (82 :: l) = (s, 10) := by rw [dApply, if_neg (by decide), if_pos rfl, dR, if_pos (.inl (by assumption))]
    rw [e]
    exact ⟨_, rfl, VW.refl _, obs_n hσ hrid hro.keep, fun t ht => by show t ∈ σ'.live; rw [hro.live]; exact ht⟩
  · try simp only [yb, yc, yd, ye, yf, yg, yh, yi, yj, yk, yl, ym, yn, yo] at h3
    obtain ⟨hz1, hz2⟩ := rEnd_zero.1 (by assumption)
    have hl := (rInt_inv hz1).2
    rw [hz2, List.append_nil] at hl
    refine awp_region_k (fun _ => false) (by rw [hB]; rfl) fun K hK base hbase hfr => ?_
    refine tr_run ?_
    simp (disch := omega) only [go_sem, ↓reduceIte, za, zb, zc, zd, ze, zf, zg, zh, zi, zj, zk, zl, zm, zn, zo, bc1, beq82, hoo, dec_t, dec_f, ltI, leI, leN, le63, le40, le0, wrap64_id, wrapu64_id, wrap8_id]
    refine tr_nil (hK _ _ _ ?_)
    clear hK K hbase hfr base
    refine awp_cond (rfl) (fun h4 => by cases h4) (fun h4 => ?_)
    refine awp_skip ?_
    refine block_n ?_
    refine then_n ?_
    refine awp_region_k (fun _ => false) (by rw [hB]; rfl) fun K hK base hbase hfr => ?_
    refine tr_run ?_
    simp (disch := omega) only [go_sem, ↓reduceIte, za, zb, zc, zd, ze, zf, zg, zh, zi, zj, zk, zl, zm, zn, zo, dec_t, dec_f, ltI, leI, leN, le63, le40, le0, wrap64_id, wrapu64_id, wrap8_id]
    refine tr_wc (by rfl) (by simp only [go_sem, ↓reduceIte, za, zb, zc, zd, ze, zf, zg, zh, zi, zj, zk, zl, zm, zn, zo] <;> rfl) (c82 σ' oid a b s (rInt 1099511627776 ⟨l, false⟩).1 hb16 hro.fa hro.fb hoo) ?_
    simp (disch := omega) only [go_sem, ↓reduceIte, za, zb, zc, zd, ze, zf, zg, zh, zi, zj, zk, zl, zm, zn, zo, dec_t, dec_f, ltI, leI, leN, le63, le40, le0, wrap64_id, wrapu64_id, wrap8_id]
    refine tr_nil (hK _ _ _ ?_)
    clear hK K hbase hfr base
    refine awp_region_k (fun _ => false) (by rw [hB]; rfl) fun K hK base hbase hfr => ?_
    refine tr_run ?_
    simp (disch := omega) only [go_sem, ↓reduceIte, za, zb, zc, zd, ze, zf, zg, zh, zi, zj, zk, zl, zm, zn, zo, dec_t, dec_f, ltI, leI, leN, le63, le40, le0, wrap64_id, wrapu64_id, wrap8_id]
    refine tr_nil (hK _ _ _ ?_)
    clear hK K hbase hfr base
    refine awp_ret ?_
    have e : dApply s (82 :: l) = ({ s with upto := max s.upto (rInt 1099511627776 ⟨l, false⟩).1 }, 0) := by
      rw [dApply, if_neg (by decide), if_pos rfl, dR, if_neg (by omega), st_max]
      split <;> rfl
    rw [e]
    exact ⟨_, rfl, VW.refl _, obs_c hσ hrid hro.keep, fun t ht => by show t ∈ σ'.live; rw [hro.live]; exact ht⟩

theorem c12I (σ : Sh) (oid : Nat) (s : St) (l : List UInt8) (hb16 : s.bags.length = 16) (hid : 0 ≤ s.id ∧ s.id ≤ 1099511627776) (hσ : σ.ob oid = some (.cells (stV s))) :
    WCalls Go.Proofs.Tryz.prog 12 [.ptr oid 0, .str (73 :: l)] σ (.int .i64 (dApply s (73 :: l)).2) (σ.setOb oid (.cells (stV (dApply s (73 :: l)).1))) := by
  by_cases h : (rInt 1099511627776 ⟨l, false⟩).1 < 1
  · exact c12Ib σ oid s l hb16 hid hσ h
  · exact c12Io σ oid s l hb16 hid hσ (by omega)
theorem c12R (σ : Sh) (oid : Nat) (s : St) (l : List UInt8) (hb16 : s.bags.length = 16) (hid : 0 ≤ s.id ∧ s.id ≤ 1099511627776) (hσ : σ.ob oid = some (.cells (stV s))) :
    WCalls Go.Proofs.Tryz.prog 12 [.ptr oid 0, .str (82 :: l)] σ (.int .i64 (dApply s (82 :: l)).2) (σ.setOb oid (.cells (stV (dApply s (82 :: l)).1))) := by
  by_cases h : (rInt 1099511627776 ⟨l, false⟩).1 < 1
  · exact c12Rb σ oid s l hb16 hid hσ h
  · exact c12Ro σ oid s l hb16 hid hσ (by omega)
end Go.Am
