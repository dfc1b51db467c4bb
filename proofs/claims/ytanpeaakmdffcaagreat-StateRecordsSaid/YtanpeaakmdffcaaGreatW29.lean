/- What functions of this program compute, a part: see the main text. No conditions. -/
import Derived.Test.YtanpeaakmdffcaaGreatW27
import Derived.Test.YtanpeaakmdffcaaGreatW28
import Derived.Test.YtanpeaakmdffcaaGreatW10
set_option linter.all false
set_option maxRecDepth 100000
namespace Go.Am
open Go
theorem ctxOne_ok {d : Int × Int} (h : dCheck d = true) : cCheck (ctxOne d) = true := by
  have hd := (dCheck_iff d).1 h
  unfold ctxOne
  split
  · rename_i h1
    have : dCheck (d.1, 1) = true := by rw [dCheck_iff]; exact ⟨hd.1, hd.2.1, by show (1 : Int) ≤ 1; decide, by show (1 : Int) ≤ 1099511627776; decide⟩
    simp [cCheck, dRises, bOk, kOk, this]
  · simp [cCheck, dRises, bOk, kOk, h, dBase]
    omega
theorem ctxOne_has {d : Int × Int} (h : dCheck d = true) : cHas (ctxOne d) d = true := by
  have hd := (dCheck_iff d).1 h
  unfold ctxOne
  split
  · rename_i h1; simp [cHas, h, dBase, h1]
  · simp [cHas, h, dHas]
theorem bagOne_ok {m : Msg} (h : mMay m = true) : bCheck ⟨[m], ctxOne m.d⟩ = true := by
  have hd := ((mMay_iff m).1 h).1
  simp [bCheck, ctxOne_ok hd, mOk, h, ctxOne_has hd, mPrev]
theorem bagGone_ok {d : Int × Int} (h : dCheck d = true) : bCheck ⟨[], ctxOne d⟩ = true := by
  simp [bCheck, ctxOne_ok h, mOk]
theorem ctxOne_len (d : Int × Int) : (ctxOne d).base.length ≤ 1 ∧ (ctxOne d).cloud.length ≤ 1 := by
  unfold ctxOne
  split <;> simp
theorem dB_put (s : St) (p : Int) (hp0 : 0 ≤ p) (hp : p ≤ 15) {b : Bag} (h : bCheck b = true) (h0 : b.live.length ≤ 1000) (h1 : b.ctx.base.length ≤ 1000) (h2 : b.ctx.cloud.length ≤ 1000) :
    dApply s (66 :: (numI p ++ bagB b)) = ({ s with bags := s.bags.set p.toNat (bJoin (s.bags.getD p.toNat bag0) b) }, 0) := by
  have e1 : rInt 15 ⟨numI p ++ bagB b, false⟩ = (p, ⟨bagB b, false⟩) := rInt_numI _ _ hp0 hp (by decide) _
  have e2 : rBag ⟨bagB b, false⟩ = (b, ⟨[], false⟩) := by have := rBag_back h h0 h1 h2 []; rwa [List.append_nil] at this
  rw [dApply, if_neg (by decide), if_neg (by decide), if_pos rfl, dB, e1]
  show (if rEnd (rBag ⟨bagB b, false⟩).2 ≠ 0 then _ else _) = _
  rw [e2, if_neg (fun h => h (rEnd_zero.2 ⟨rfl, rfl⟩))]
theorem dN_put (s : St) {l : List Tg} (h : tCheck l = true) (hl : l.length ≤ 100) : dApply s (78 :: tgsB l) = ({ s with tags := nJoin s.tags l }, 0) := by
  have hok : ∀ t ∈ l, tOk t = true := by
    have : ∀ (l : List Tg) (p : Option Tg), chkGo tOk tLt p l = true → ∀ t ∈ l, tOk t = true := by
      intro l
      induction l with
      | nil => intro p h t ht; cases ht
      | cons a l ih =>
        intro p h t ht
        simp only [chkGo, Bool.and_eq_true] at h
        rcases List.mem_cons.1 ht with rfl | ht
        · exact h.1
        · exact ih _ h.2.2 t ht
    simp only [tCheck, Bool.and_eq_true] at h
    exact this l none h.2
  have e : rdL rTag tCheck 100 ⟨tgsB l, false⟩ = (l, ⟨[], false⟩) := by
    have := rdL_back (f := rTag) (w := tBytes) (chk := tCheck) (most := 100) (by decide) (fun x hx rest => rTag_back (hok x hx) rest) h (by omega) []
    rwa [List.append_nil] at this
  rw [dApply, if_neg (by decide), if_neg (by decide), if_neg (by decide), if_pos rfl, dN, e, if_neg (fun h => h (rEnd_zero.2 ⟨rfl, rfl⟩))]
theorem chk_all {α : Type} {ok : α → Bool} {lt : α → α → Bool} : ∀ (l : List α) (p : Option α), chkGo ok lt p l = true → ∀ t ∈ l, ok t = true
  | [], p, h, t, ht => by cases ht
  | a :: l, p, h, t, ht => by
    simp only [chkGo, Bool.and_eq_true] at h
    rcases List.mem_cons.1 ht with rfl | ht
    · exact h.1
    · exact chk_all l _ h.2.2 t ht
theorem dV_put (s : St) {l : List Peer} (h : pCheck l = true) (hl : l.length ≤ 64) : dApply s (86 :: peersB l) = ({ s with view := pJoin s.view l }, 0) := by
  have hok : ∀ t ∈ l, pMay t = true := by
    have h' := h
    simp only [pCheck, Bool.and_eq_true] at h'
    exact chk_all l none h'.2
  have e : rdL rPeer pCheck 64 ⟨peersB l, false⟩ = (l, ⟨[], false⟩) := by
    have := rdL_back (f := rPeer) (w := pBytes) (chk := pCheck) (most := 64) (by decide) (fun x hx rest => rPeer_back (hok x hx) rest) h (by omega) []
    rwa [List.append_nil] at this
  rw [dApply, if_neg (by decide), if_neg (by decide), if_neg (by decide), if_neg (by decide), if_pos rfl, dV, e, if_neg (fun h => h (rEnd_zero.2 ⟨rfl, rfl⟩))]
theorem dH_put (s : St) {l : List Hold} (h : hCheck l = true) (hl : l.length ≤ 1000) : dApply s (72 :: holdsB l) = ({ s with holds := l }, 0) := by
  have hok : ∀ t ∈ l, hMay t = true := by
    have h' := h
    simp only [hCheck, Bool.and_eq_true] at h'
    exact chk_all l none h'.2
  have e : rdL rHold hCheck 1000 ⟨holdsB l, false⟩ = (l, ⟨[], false⟩) := by
    have := rdL_back (f := rHold) (w := hBytes) (chk := hCheck) (most := 1000) (by decide) (fun x hx rest => rHold_back (hok x hx) rest) h (by omega) []
    rwa [List.append_nil] at this
  rw [dApply, if_neg (by decide), if_neg (by decide), if_neg (by decide), if_neg (by decide), if_neg (by decide), if_pos rfl, dH, e, if_neg (fun h => h (rEnd_zero.2 ⟨rfl, rfl⟩))]
theorem rcTag_ok (n : Int) : tCheck [rcTag n] = true := by
  have h2 := band_le (n.fdiv 4) 7 (by decide) (by decide)
  have e : tOk (rcTag n) = true := by
    simp only [tOk, nameOk, Bool.and_eq_true, decide_eq_true_eq, Bool.not_eq_true', decide_eq_false_iff_not]
    refine ⟨⟨by show (1 : Int) ≤ 1; decide, by show (1 : Int) ≤ 40; decide⟩, ?_, ?_⟩
    · show ¬ 1 + bits .and .i64 (n.fdiv 4) 7 < 1; omega
    · show ¬ 1048576 < 1 + bits .and .i64 (n.fdiv 4) 7; omega
  simp [tCheck, chkGo, e, prevOk]
theorem rcPeer_ok (n : Int) : pCheck [rcPeer n] = true := by
  have h1 := band_le n 3 (by decide) (by decide)
  have h2 := band_le (n.fdiv 4) 3 (by decide) (by decide)
  have h3 := band_le (n.fdiv 16) 1 (by decide) (by decide)
  have e : pMay (rcPeer n) = true := by
    simp only [pMay, Bool.and_eq_true, decide_eq_true_eq]
    show 1 ≤ 1 + bits .and .i64 n 3 ∧ 1 + bits .and .i64 n 3 ≤ 1099511627776 ∧ 0 ≤ bits .and .i64 (n.fdiv 4) 3 ∧ bits .and .i64 (n.fdiv 4) 3 ≤ 1073741824 ∧ 0 ≤ bits .and .i64 (n.fdiv 16) 1 ∧ bits .and .i64 (n.fdiv 16) 1 ≤ 2
    omega
  simp [pCheck, chkGo, e, prevOk]
theorem rcHold_ok (n : Int) : hCheck [rcHold n] = true := by
  have h1 := band_le (n.fdiv 32) 3 (by decide) (by decide)
  have h2 := band_le (n.fdiv 128) 31 (by decide) (by decide)
  have e : hMay (rcHold n) = true := by
    simp only [hMay, Bool.and_eq_true, decide_eq_true_eq]
    refine ⟨rcDot_ok n, ?_⟩
    show 1 ≤ 1 + bits .and .i64 (n.fdiv 32) 3 ∧ 1 + bits .and .i64 (n.fdiv 32) 3 ≤ 1099511627776 ∧ 1 ≤ 1 + bits .and .i64 (n.fdiv 128) 31 ∧ 1 + bits .and .i64 (n.fdiv 128) 31 ≤ 1125899906842624
    omega
  simp [hCheck, chkGo, e, prevOk]
/-- What a record by numbers does to a state, the bytes aside. -/
def recStep (s : St) (x : Rc) : St :=
  if bits .and .i64 x.k 7 = 2 then { s with bags := s.bags.set (bits .and .i64 x.p 15).toNat (bJoin (s.bags.getD (bits .and .i64 x.p 15).toNat bag0) ⟨[rcMsg x.n], ctxOne (rcDot x.n)⟩) }
  else if bits .and .i64 x.k 7 = 3 then { s with bags := s.bags.set (bits .and .i64 x.p 15).toNat (bJoin (s.bags.getD (bits .and .i64 x.p 15).toNat bag0) ⟨[], ctxOne (rcDot x.n)⟩) }
  else if bits .and .i64 x.k 7 = 4 then { s with tags := nJoin s.tags [rcTag x.n] }
  else if bits .and .i64 x.k 7 = 5 then { s with view := pJoin s.view [rcPeer x.n] }
  else { s with holds := [rcHold x.n] }
theorem rec_apply (s : St) (x : Rc) (h1 : 2 ≤ bits .and .i64 x.k 7) (h2 : bits .and .i64 x.k 7 ≤ 6) : dApply s (rcText x) = (recStep s x, 0) := by
  have hp := band_le x.p 15 (by decide) (by decide)
  have hm := rcMsg_ok x.n
  have hl := ctxOne_len (rcDot x.n)
  unfold rcText recStep
  rw [if_neg (by omega), if_neg (by omega)]
  split
  · rw [put_one hm]
    exact dB_put s _ hp.1 hp.2 (bagOne_ok hm) (by simp) (by show (ctxOne (rcDot x.n)).base.length ≤ _; omega) (by show (ctxOne (rcDot x.n)).cloud.length ≤ _; omega)
  · split
    · rw [rem_one (rcDot_ok x.n)]
      exact dB_put s _ hp.1 hp.2 (bagGone_ok (rcDot_ok x.n)) (by simp) (by show (ctxOne (rcDot x.n)).base.length ≤ _; omega) (by show (ctxOne (rcDot x.n)).cloud.length ≤ _; omega)
    · split
      · exact dN_put s (rcTag_ok x.n) (by simp)
      · split
        · exact dV_put s (rcPeer_ok x.n) (by simp)
        · rw [if_pos (by omega)]
          exact dH_put s (rcHold_ok x.n) (by simp)
end Go.Am
namespace Go.Am
open Go
open Nat renaming reduceEqDiff → za, reduceAdd → zb, reduceMul → zc, reducePow → zd, reduceLeDiff → ze, reduceSub → zf, reduceBEq → zg, reduceBNe → zh, reduceDiv → zi, reduceMod → zj
open Int renaming reduceLT → zk, reduceLE → zl, reduceEq → zm, reduceNe → zn, reduceToNat → zo

theorem dApply_I (s : St) (n : Int) (h1 : 1 ≤ n) (h2 : n ≤ 1099511627776) : dApply s (73 :: numI n) = if s.id ≠ 0 ∧ s.id ≠ n then (s, 13) else ({ s with id := n }, 0) := by
  have h := rInt_numI n 1099511627776 (by omega) h2 (by decide) []
  rw [List.append_nil] at h
  rw [dApply, if_pos rfl, dI, h, if_neg]
  rintro (h3 | h3)
  · exact h3 (rEnd_zero.2 ⟨rfl, rfl⟩)
  · have : n < 1 := h3
    omega
theorem dApply_R (s : St) (n : Int) (h1 : 1 ≤ n) (h2 : n ≤ 1099511627776) : dApply s (82 :: numI n) = if s.upto < n then ({ s with upto := n }, 0) else (s, 0) := by
  have h := rInt_numI n 1099511627776 (by omega) h2 (by decide) []
  rw [List.append_nil] at h
  rw [dApply, if_neg (by decide), if_pos rfl, dR, h, if_neg]
  rintro (h3 | h3)
  · exact h3 (rEnd_zero.2 ⟨rfl, rfl⟩)
  · have : n < 1 := h3
    omega
def st1 : St := { st0 with id := 7 }
def st2 : St := { st1 with upto := 9 }
theorem aw1 : dApply st0 (73 :: numI 7) = (st1, 0) := by rw [dApply_I _ _ (by decide) (by decide), if_neg (by decide)]; rfl
theorem aw2 : dApply st1 (73 :: numI 8) = (st1, 13) := by rw [dApply_I _ _ (by decide) (by decide), if_pos (by decide)]
theorem aw3 : dApply st1 (82 :: numI 9) = (st2, 0) := by rw [dApply_R _ _ (by decide) (by decide), if_pos (by decide)]; rfl
theorem aw4 : dApply st2 (82 :: numI 5) = (st2, 0) := by rw [dApply_R _ _ (by decide) (by decide), if_neg (by decide)]
theorem st2u : st2.upto = 9 := rfl
theorem st2i : st2.id = 7 := rfl
theorem obs_new {σ : Sh} {n : Nat} {X : Ob} (hn : σ.ob n = none) : ∀ i o, σ.ob i = some o → (σ.setOb n X).ob i = some o := fun i o h => by
  rw [Sh.setOb_ob, if_neg (fun e => by rw [e, hn] at h; cases h)]
  exact h
set_option maxHeartbeats 4000000 in
theorem c9  : PCalls Go.Proofs.Tryz.prog 9 [] (.bool true) := by
  refine pcalls_of_awp Go.Proofs.Tryz.func9 rfl (by decide) (Nat.le_of_ble_eq_true rfl) ?_
  intro B σ hB ho hob
  refine awp_region_k (fun _ => false) (by rw [hB]; rfl) fun K hK base hbase hfr => ?_
  refine tr_run ?_
  simp (disch := omega) only [go_sem, ↓reduceIte, za, zb, zc, zd, ze, zf, zg, zh, zi, zj, zk, zl, zm, zn, zo, dec_t, dec_f, ltI, leI, leN, le63, le40, le0, wrap64_id, wrapu64_id, wrap8_id]
  refine tr_nil (hK _ _ _ ?_)
  clear hK K hbase hfr base
  refine awp_region_k (fun _ => false) (by rw [hB]; rfl) fun K hK base hbase hfr => ?_
  refine tr_run ?_
  simp (disch := omega) only [go_sem, ↓reduceIte, za, zb, zc, zd, ze, zf, zg, zh, zi, zj, zk, zl, zm, zn, zo, dec_t, dec_f, ltI, leI, leN, le63, le40, le0, wrap64_id, wrapu64_id, wrap8_id]
  refine tr_acall (c10 σ) (by rfl) (by simp only [go_sem, ↓reduceIte, za, zb, zc, zd, ze, zf, zg, zh, zi, zj, zk, zl, zm, zn, zo] <;> rfl) ?_
  rintro _ _ ⟨oid, hn, rfl, rfl⟩
  simp (disch := omega) only [go_sem, ↓reduceIte, za, zb, zc, zd, ze, zf, zg, zh, zi, zj, zk, zl, zm, zn, zo, dec_t, dec_f, ltI, leI, leN, le63, le40, le0, wrap64_id, wrapu64_id, wrap8_id]
  refine tr_nil (hK _ _ _ ?_)
  clear hK K hbase hfr base
  refine awp_seq ?_
  refine awp_region_k (fun _ => false) (by rw [hB]; rfl) fun K hK base hbase hfr => ?_
  refine tr_run ?_
  simp (disch := omega) only [go_sem, ↓reduceIte, za, zb, zc, zd, ze, zf, zg, zh, zi, zj, zk, zl, zm, zn, zo, dec_t, dec_f, ltI, leI, leN, le63, le40, le0, wrap64_id, wrapu64_id, wrap8_id]
  refine tr_nil (hK _ _ _ ?_)
  clear hK K hbase hfr base
  refine awp_cond (rfl) (fun h1 => by cases h1) (fun h1 => ?_)
  refine awp_skip ?_
  refine then_n ?_
  refine awp_region_k (fun _ => false) (by rw [hB]; rfl) fun K hK base hbase hfr => ?_
  refine tr_run ?_
  simp (disch := omega) only [go_sem, ↓reduceIte, za, zb, zc, zd, ze, zf, zg, zh, zi, zj, zk, zl, zm, zn, zo, aw1, dec_t, dec_f, ltI, leI, leN, le63, le40, le0, wrap64_id, wrapu64_id, wrap8_id]
  refine tr_pc (by rfl) (by simp only [go_sem, ↓reduceIte, za, zb, zc, zd, ze, zf, zg, zh, zi, zj, zk, zl, zm, zn, zo, aw1] <;> rfl) (c17 7 (by unfold I63; decide)) ?_
  simp (disch := omega) only [go_sem, ↓reduceIte, za, zb, zc, zd, ze, zf, zg, zh, zi, zj, zk, zl, zm, zn, zo, aw1, dec_t, dec_f, ltI, leI, leN, le63, le40, le0, wrap64_id, wrapu64_id, wrap8_id]
  refine tr_wc (by rfl) (by simp only [go_sem, ↓reduceIte, za, zb, zc, zd, ze, zf, zg, zh, zi, zj, zk, zl, zm, zn, zo, aw1] <;> rfl) (c12I _ oid st0 (numI 7) rfl (by decide) (setOb_same _ _ _)) ?_
  simp (disch := omega) only [go_sem, ↓reduceIte, za, zb, zc, zd, ze, zf, zg, zh, zi, zj, zk, zl, zm, zn, zo, aw1, dec_t, dec_f, ltI, leI, leN, le63, le40, le0, wrap64_id, wrapu64_id, wrap8_id]
  refine tr_nil (hK _ _ _ ?_)
  clear hK K hbase hfr base
  refine awp_region_k (fun _ => false) (by rw [hB]; rfl) fun K hK base hbase hfr => ?_
  refine tr_run ?_
  simp (disch := omega) only [go_sem, ↓reduceIte, za, zb, zc, zd, ze, zf, zg, zh, zi, zj, zk, zl, zm, zn, zo, aw2, dec_t, dec_f, ltI, leI, leN, le63, le40, le0, wrap64_id, wrapu64_id, wrap8_id]
  refine tr_pc (by rfl) (by simp only [go_sem, ↓reduceIte, za, zb, zc, zd, ze, zf, zg, zh, zi, zj, zk, zl, zm, zn, zo, aw2] <;> rfl) (c17 8 (by unfold I63; decide)) ?_
  simp (disch := omega) only [go_sem, ↓reduceIte, za, zb, zc, zd, ze, zf, zg, zh, zi, zj, zk, zl, zm, zn, zo, aw2, dec_t, dec_f, ltI, leI, leN, le63, le40, le0, wrap64_id, wrapu64_id, wrap8_id]
  refine tr_wc (by rfl) (by simp only [go_sem, ↓reduceIte, za, zb, zc, zd, ze, zf, zg, zh, zi, zj, zk, zl, zm, zn, zo, aw2] <;> rfl) (c12I _ oid st1 (numI 8) rfl (by decide) (setOb_same _ _ _)) ?_
  simp (disch := omega) only [go_sem, ↓reduceIte, za, zb, zc, zd, ze, zf, zg, zh, zi, zj, zk, zl, zm, zn, zo, aw2, dec_t, dec_f, ltI, leI, leN, le63, le40, le0, wrap64_id, wrapu64_id, wrap8_id]
  refine tr_nil (hK _ _ _ ?_)
  clear hK K hbase hfr base
  refine awp_region_k (fun _ => false) (by rw [hB]; rfl) fun K hK base hbase hfr => ?_
  refine tr_run ?_
  simp (disch := omega) only [go_sem, ↓reduceIte, za, zb, zc, zd, ze, zf, zg, zh, zi, zj, zk, zl, zm, zn, zo, aw3, dec_t, dec_f, ltI, leI, leN, le63, le40, le0, wrap64_id, wrapu64_id, wrap8_id]
  refine tr_pc (by rfl) (by simp only [go_sem, ↓reduceIte, za, zb, zc, zd, ze, zf, zg, zh, zi, zj, zk, zl, zm, zn, zo, aw3] <;> rfl) (c19 9 (by unfold I63; decide)) ?_
  simp (disch := omega) only [go_sem, ↓reduceIte, za, zb, zc, zd, ze, zf, zg, zh, zi, zj, zk, zl, zm, zn, zo, aw3, dec_t, dec_f, ltI, leI, leN, le63, le40, le0, wrap64_id, wrapu64_id, wrap8_id]
  refine tr_wc (by rfl) (by simp only [go_sem, ↓reduceIte, za, zb, zc, zd, ze, zf, zg, zh, zi, zj, zk, zl, zm, zn, zo, aw3] <;> rfl) (c12R _ oid st1 (numI 9) rfl (by decide) (setOb_same _ _ _)) ?_
  simp (disch := omega) only [go_sem, ↓reduceIte, za, zb, zc, zd, ze, zf, zg, zh, zi, zj, zk, zl, zm, zn, zo, aw3, dec_t, dec_f, ltI, leI, leN, le63, le40, le0, wrap64_id, wrapu64_id, wrap8_id]
  refine tr_nil (hK _ _ _ ?_)
  clear hK K hbase hfr base
  refine awp_region_k (fun _ => false) (by rw [hB]; rfl) fun K hK base hbase hfr => ?_
  refine tr_run ?_
  simp (disch := omega) only [go_sem, ↓reduceIte, za, zb, zc, zd, ze, zf, zg, zh, zi, zj, zk, zl, zm, zn, zo, aw4, dec_t, dec_f, ltI, leI, leN, le63, le40, le0, wrap64_id, wrapu64_id, wrap8_id]
  refine tr_pc (by rfl) (by simp only [go_sem, ↓reduceIte, za, zb, zc, zd, ze, zf, zg, zh, zi, zj, zk, zl, zm, zn, zo, aw4] <;> rfl) (c19 5 (by unfold I63; decide)) ?_
  simp (disch := omega) only [go_sem, ↓reduceIte, za, zb, zc, zd, ze, zf, zg, zh, zi, zj, zk, zl, zm, zn, zo, aw4, dec_t, dec_f, ltI, leI, leN, le63, le40, le0, wrap64_id, wrapu64_id, wrap8_id]
  refine tr_wc (by rfl) (by simp only [go_sem, ↓reduceIte, za, zb, zc, zd, ze, zf, zg, zh, zi, zj, zk, zl, zm, zn, zo, aw4] <;> rfl) (c12R _ oid st2 (numI 5) rfl (by decide) (setOb_same _ _ _)) ?_
  simp (disch := omega) only [go_sem, ↓reduceIte, za, zb, zc, zd, ze, zf, zg, zh, zi, zj, zk, zl, zm, zn, zo, aw4, dec_t, dec_f, ltI, leI, leN, le63, le40, le0, wrap64_id, wrapu64_id, wrap8_id]
  refine tr_nil (hK _ _ _ ?_)
  clear hK K hbase hfr base
  refine awp_region_k (fun _ => false) (by rw [hB]; rfl) fun K hK base hbase hfr => ?_
  refine tr_run ?_
  simp (disch := omega) only [go_sem, ↓reduceIte, za, zb, zc, zd, ze, zf, zg, zh, zi, zj, zk, zl, zm, zn, zo, st2u, st2i, dec_t, dec_f, ltI, leI, leN, le63, le40, le0, wrap64_id, wrapu64_id, wrap8_id]
  refine tr_wc (by simp only [go_sem, ↓reduceIte, za, zb, zc, zd, ze, zf, zg, zh, zi, zj, zk, zl, zm, zn, zo, st2u, st2i]) (by simp only [go_sem, ↓reduceIte, za, zb, zc, zd, ze, zf, zg, zh, zi, zj, zk, zl, zm, zn, zo, st2u, st2i] <;> rfl) (c34 _ oid st2 rfl (setOb_same _ _ _)) ?_
  simp (disch := omega) only [go_sem, ↓reduceIte, za, zb, zc, zd, ze, zf, zg, zh, zi, zj, zk, zl, zm, zn, zo, st2u, st2i, dec_t, dec_f, ltI, leI, leN, le63, le40, le0, wrap64_id, wrapu64_id, wrap8_id]
  refine tr_wc (by simp only [go_sem, ↓reduceIte, za, zb, zc, zd, ze, zf, zg, zh, zi, zj, zk, zl, zm, zn, zo, st2u, st2i]) (by simp only [go_sem, ↓reduceIte, za, zb, zc, zd, ze, zf, zg, zh, zi, zj, zk, zl, zm, zn, zo, st2u, st2i] <;> rfl) (c35 _ oid st2 rfl (setOb_same _ _ _)) ?_
  simp (disch := omega) only [go_sem, ↓reduceIte, za, zb, zc, zd, ze, zf, zg, zh, zi, zj, zk, zl, zm, zn, zo, st2u, st2i, dec_t, dec_f, ltI, leI, leN, le63, le40, le0, wrap64_id, wrapu64_id, wrap8_id]
  refine tr_nil (hK _ _ _ ?_)
  clear hK K hbase hfr base
  refine awp_ret ?_
  exact ⟨_, rfl, VW.refl _, obs_new hn, fun _ h => h⟩
end Go.Am
namespace Go.Am
open Go
theorem dSort_nil : dSort [] = [] := rfl
theorem one_node (d : Int × Int) : cNodes ⟨[], [d]⟩ = [d.1] ∧ cNodes ⟨[d], []⟩ = [d.1] := by
  simp only [cNodes, List.map_nil, List.map_cons, List.nil_append, List.append_nil, dSort_one, zN]
  exact ⟨trivial, trivial⟩
theorem cJoin_nil {d : Int × Int} (h : dCheck d = true) : cJoin ⟨[], []⟩ (ctxOne d) = ctxOne d := by
  have hd := (dCheck_iff d).1 h
  unfold ctxOne
  split
  · rename_i h1
    simp only [cJoin, List.nil_append, (one_node (d.1, 1)).2, List.foldl_cons, List.foldl_nil, joinStep, joinUp, dBase, cOf, dOf, dSort_nil, List.filter_nil, ofGo]
    simp
  · rename_i h1
    simp only [cJoin, List.nil_append, (one_node d).1, List.foldl_cons, List.foldl_nil, joinStep, joinUp, dBase, cOf, dOf, dSort_one, List.filter_cons, beq_self_eq_true, if_true, List.filter_nil, ofGo]
    have h2 : ¬ d.2 = 0 + 1 := by omega
    have h3 : 0 < d.2 := by omega
    simp [h1, h3]
theorem dSort_two (d : Int × Int) : dSort [d, d] = [d] := by simp [dSort, dSortGo, dHas, dIns, insPos]
theorem cJoin_self {d : Int × Int} (h : dCheck d = true) : cJoin (ctxOne d) (ctxOne d) = ctxOne d := by
  have hd := (dCheck_iff d).1 h
  unfold ctxOne
  split
  · rename_i h1
    simp only [cJoin, List.cons_append, List.nil_append, cNodes, List.map_cons, List.map_nil, List.append_nil, zN, dSort_two, List.foldl_cons, List.foldl_nil, joinStep, joinUp, dBase, cOf, dOf, dSort_nil, List.filter_nil, ofGo]
    simp
  · rename_i h1
    simp only [cJoin, List.cons_append, List.nil_append, cNodes, List.map_cons, List.map_nil, zN, dSort_two, List.foldl_cons, List.foldl_nil, joinStep, joinUp, dBase, cOf, dOf, List.filter_cons, beq_self_eq_true, if_true, List.filter_nil, ofGo]
    have h3 : 0 < d.2 := by omega
    simp [h1, h3]
theorem bJoin_first {m : Msg} (h : dCheck m.d = true) : bJoin bag0 ⟨[m], ctxOne m.d⟩ = ⟨[m], ctxOne m.d⟩ := by
  have e : jTwo bag0 m = [m] := by
    unfold jTwo
    rw [if_pos]
    have hd := (dCheck_iff m.d).1 h
    simp [bag0, cHas, dHas, dBase]
    omega
  unfold bJoin
  simp only [bag0, List.flatMap_nil, List.flatMap_cons, List.append_nil, List.nil_append, cJoin_nil h]
  have e2 : jTwo ⟨[], ⟨[], []⟩⟩ m = [m] := e
  rw [e2, bSorted_one]
theorem bJoin_gone {m : Msg} (h : dCheck m.d = true) : bJoin ⟨[m], ctxOne m.d⟩ ⟨[], ctxOne m.d⟩ = ⟨[], ctxOne m.d⟩ := by
  have e : jOne ⟨[], ctxOne m.d⟩ m = [] := by
    unfold jOne
    rw [if_neg (by simp [bGet]), if_neg (by rw [ctxOne_has h]; decide)]
  unfold bJoin
  simp only [List.flatMap_nil, List.flatMap_cons, List.append_nil, e, cJoin_self h]
  rfl
theorem nJoin_first {t : Tg} (h : 0 < t.n) : nJoin [] [t] = [t] := by simp [nJoin, nStep, nNum, h, nWith, wGo]
theorem pJoin_first (p : Peer) : pJoin [] [p] = [p] := by simp [pJoin, pPut, pGo]
def withK (x : Rc) (k : Int) : Rc := { x with k := k }
/-- The state behind i of the five records. -/
def stAt (x : Rc) : Nat → St
  | 0 => st0
  | i + 1 => recStep (stAt x i) (withK x ((i : Int) + 2))
def ptOf (x : Rc) : Nat := (bits .and .i64 x.p 15).toNat
theorem ptOf_lt (x : Rc) : ptOf x < 16 := by
  have := band_le x.p 15 (by decide) (by decide)
  unfold ptOf
  omega
def bagA (x : Rc) : Bag := ⟨[rcMsg x.n], ctxOne (rcDot x.n)⟩
def bagZ (x : Rc) : Bag := ⟨[], ctxOne (rcDot x.n)⟩
theorem band2 : bits .and .i64 2 7 = 2 := by decide
theorem band3 : bits .and .i64 3 7 = 3 := by decide
theorem band4 : bits .and .i64 4 7 = 4 := by decide
theorem band5 : bits .and .i64 5 7 = 5 := by decide
theorem band6 : bits .and .i64 6 7 = 6 := by decide
theorem getD_set {α : Type} (l : List α) (i : Nat) (x d : α) (h : i < l.length) : (l.set i x).getD i d = x := by simp [List.getD, h]
theorem getD_rep {α : Type} (n i : Nat) (x : α) : (List.replicate n x).getD i x = x := by
  simp only [List.getD, List.getElem?_replicate]
  split <;> rfl
theorem stAt1 (x : Rc) : stAt x 1 = ⟨0, 0, st0.bags.set (ptOf x) (bagA x), [], [], []⟩ := by
  show recStep st0 (withK x 2) = _
  unfold recStep withK
  rw [if_pos band2]
  have e : (st0.bags.getD (ptOf x) bag0) = bag0 := getD_rep 16 _ bag0
  show (⟨0, 0, st0.bags.set (ptOf x) (bJoin (st0.bags.getD (ptOf x) bag0) (bagA x)), [], [], []⟩ : St) = _
  rw [e, show bagA x = ⟨[rcMsg x.n], ctxOne (rcMsg x.n).d⟩ from rfl, bJoin_first (rcDot_ok x.n)]
theorem stAt2 (x : Rc) : stAt x 2 = ⟨0, 0, st0.bags.set (ptOf x) (bagZ x), [], [], []⟩ := by
  show recStep (stAt x 1) (withK x 3) = _
  rw [stAt1]
  unfold recStep withK
  rw [if_neg (by rw [band3]; decide), if_pos band3]
  show (⟨0, 0, (st0.bags.set (ptOf x) (bagA x)).set (ptOf x) (bJoin ((st0.bags.set (ptOf x) (bagA x)).getD (ptOf x) bag0) (bagZ x)), [], [], []⟩ : St) = _
  rw [getD_set _ _ _ _ (by have := ptOf_lt x; simpa [st0] using this), show bJoin (bagA x) (bagZ x) = bagZ x from bJoin_gone (m := rcMsg x.n) (rcDot_ok x.n), List.set_set]
theorem stAt3 (x : Rc) : stAt x 3 = ⟨0, 0, st0.bags.set (ptOf x) (bagZ x), [rcTag x.n], [], []⟩ := by
  show recStep (stAt x 2) (withK x 4) = _
  rw [stAt2]
  unfold recStep withK
  rw [if_neg (by rw [band4]; decide), if_neg (by rw [band4]; decide), if_pos band4]
  have h := band_le (x.n.fdiv 4) 7 (by decide) (by decide)
  show (⟨0, 0, _, nJoin [] [rcTag x.n], [], []⟩ : St) = _
  rw [nJoin_first (by show 0 < 1 + bits .and .i64 (x.n.fdiv 4) 7; omega)]
theorem stAt4 (x : Rc) : stAt x 4 = ⟨0, 0, st0.bags.set (ptOf x) (bagZ x), [rcTag x.n], [rcPeer x.n], []⟩ := by
  show recStep (stAt x 3) (withK x 5) = _
  rw [stAt3]
  unfold recStep withK
  rw [if_neg (by rw [band5]; decide), if_neg (by rw [band5]; decide), if_neg (by rw [band5]; decide), if_pos band5]
  show (⟨0, 0, _, _, pJoin [] [rcPeer x.n], []⟩ : St) = _
  rw [pJoin_first]
theorem stAt5 (x : Rc) : stAt x 5 = ⟨0, 0, st0.bags.set (ptOf x) (bagZ x), [rcTag x.n], [rcPeer x.n], [rcHold x.n]⟩ := by
  show recStep (stAt x 4) (withK x 6) = _
  rw [stAt4]
  unfold recStep withK
  rw [if_neg (by rw [band6]; decide), if_neg (by rw [band6]; decide), if_neg (by rw [band6]; decide), if_neg (by rw [band6]; decide)]
theorem ctxOne_cok {d : Int × Int} (h : dCheck d = true) : Cok (ctxOne d) := by
  have hd := (dCheck_iff d).1 h
  unfold ctxOne
  split
  · exact ⟨fun y hy => by simp at hy; subst hy; exact ⟨by show (0 : Int) ≤ 1; decide, by show (1 : Int) ≤ _; decide⟩, fun y hy => by simp at hy, by simp, by simp⟩
  · exact ⟨fun y hy => by simp at hy, fun y hy => by simp at hy; subst hy; omega, by simp, by simp⟩
theorem sok_set {b : Bag} (p : Nat) (h1 : Cok b.ctx) (h2 : b.live.length ≤ 500000) (t : List Tg) (v : List Peer) (h : List Hold) (ht : t.length ≤ 100000) (hv : v.length ≤ 100000) : Sok ⟨0, 0, st0.bags.set p b, t, v, h⟩ where
  len := by simp [st0]
  bags c hc := by
    rcases List.mem_or_eq_of_mem_set hc with hc | rfl
    · have : c = bag0 := by simpa [st0] using hc
      subst this
      exact ⟨cok0, by simp [bag0]⟩
    · exact ⟨h1, h2⟩
  tags := ht
  view := hv
theorem sok_at (x : Rc) : ∀ i, i ≤ 5 → Sok (stAt x i) := by
  intro i hi
  have hc := ctxOne_cok (rcDot_ok x.n)
  match i, hi with
  | 0, _ => exact ⟨by simp [stAt, st0], fun b hb => by have : b = bag0 := by simpa [stAt, st0] using hb
                                                       subst this; exact ⟨cok0, by simp [bag0]⟩, by simp [stAt, st0], by simp [stAt, st0]⟩
  | 1, _ => rw [stAt1]; exact sok_set _ hc (by simp [bagA]) _ _ _ (by simp) (by simp)
  | 2, _ => rw [stAt2]; exact sok_set _ hc (by simp [bagZ]) _ _ _ (by simp) (by simp)
  | 3, _ => rw [stAt3]; exact sok_set _ hc (by simp [bagZ]) _ _ _ (by simp) (by simp)
  | 4, _ => rw [stAt4]; exact sok_set _ hc (by simp [bagZ]) _ _ _ (by simp) (by simp)
  | 5, _ => rw [stAt5]; exact sok_set _ hc (by simp [bagZ]) _ _ _ (by simp) (by simp)
theorem band_k (i : Nat) (hi : i ≤ 4) : bits .and .i64 ((i : Int) + 2) 7 = (i : Int) + 2 := by
  match i, hi with
  | 0, _ => decide
  | 1, _ => decide
  | 2, _ => decide
  | 3, _ => decide
  | 4, _ => decide
theorem rcText_cons (y : Rc) (h : bits .and .i64 y.k 7 ≤ 6) : ∃ m l, rcText y = m :: l := by
  have := band_le y.k 7 (by decide) (by decide)
  unfold rcText
  repeat' split
  all_goals first | exact ⟨_, _, rfl⟩ | omega
/-- Apply at a record by numbers. -/
theorem c16r (σ : Sh) (oid : Nat) (s : St) (y : Rc) (hs : Sok s) (hσ : σ.ob oid = some (.cells (stV s))) (h1 : 2 ≤ bits .and .i64 y.k 7) (h2 : bits .and .i64 y.k 7 ≤ 6) :
    WCalls Go.Proofs.Tryz.prog 16 [.ptr oid 0, .str (rcText y)] σ (.int .i64 0) (σ.setOb oid (.cells (stV (recStep s y)))) := by
  obtain ⟨m, l, e⟩ := rcText_cons y h2
  have h := c16c σ oid s m l hs hσ
  rw [← e, rec_apply s y h1 h2] at h
  exact h
end Go.Am
namespace Go.Am
open Go
open Nat renaming reduceEqDiff → za, reduceAdd → zb, reduceMul → zc, reducePow → zd, reduceLeDiff → ze, reduceSub → zf, reduceBEq → zg, reduceBNe → zh, reduceDiv → zi, reduceMod → zj
open Int renaming reduceLT → zk, reduceLE → zl, reduceEq → zm, reduceNe → zn, reduceToNat → zo

theorem rc_bag (x : Rc) : (stAt x 5).bags.getD (bits .and .i64 x.p 15).toNat bag0 = bagZ x := by
  rw [stAt5]
  exact getD_set _ _ _ _ (by have := ptOf_lt x; simpa [st0, ptOf] using this)
theorem bagZ63 (x : Rc) : Bag63 (bagZ x) ∧ (bagB (bagZ x)).length ≤ 1000 := by
  have h := rem63 x.n
  rw [rem_one (rcDot_ok x.n)] at h
  exact h
set_option maxHeartbeats 4000000 in
theorem c4 (n part : Int) (x : Rc) (hn : I63 n) (hp : I63 part) (hx : I63 x.n) : PCalls Go.Proofs.Tryz.prog 4 [.int .i64 n, .int .i64 part, rcV x] (.bool true) := by
  have b4 := band_le x.p 15 (by decide) (by decide)
  have hb16 : (stAt x 5).bags.length = 16 := (sok_at x 5 (by decide)).len
  have htags : (stAt x 5).tags = [rcTag x.n] := by rw [stAt5]
  have hview : (stAt x 5).view = [rcPeer x.n] := by rw [stAt5]
  have hholds : (stAt x 5).holds = [rcHold x.n] := by rw [stAt5]
  refine pcalls_of_awp Go.Proofs.Tryz.func4 rfl (by decide) (Nat.le_of_ble_eq_true rfl) ?_
  intro B σ hB ho hob
  refine awp_region_k (fun k => k == 14 || k == 11) (by rw [hB]; rfl) fun K hK base hbase hfr => ?_
  refine tr_run ?_
  simp (disch := omega) only [go_sem, ↓reduceIte, za, zb, zc, zd, ze, zf, zg, zh, zi, zj, zk, zl, zm, zn, zo, dec_t, dec_f, ltI, leI, leN, le63, le40, le0, wrap64_id, wrapu64_id, wrap8_id]
  refine tr_nil (hK _ _ _ ?_)
  clear hK K hbase hfr base
  refine awp_region_k (fun k => k == 14 || k == 11) (by rw [hB]; rfl) fun K hK base hbase hfr => ?_
  refine tr_run ?_
  simp (disch := omega) only [go_sem, ↓reduceIte, za, zb, zc, zd, ze, zf, zg, zh, zi, zj, zk, zl, zm, zn, zo, dec_t, dec_f, ltI, leI, leN, le63, le40, le0, wrap64_id, wrapu64_id, wrap8_id]
  refine tr_pc (by rfl) (by simp only [go_sem, ↓reduceIte, za, zb, zc, zd, ze, zf, zg, zh, zi, zj, zk, zl, zm, zn, zo] <;> rfl) (c9) ?_
  simp (disch := omega) only [go_sem, ↓reduceIte, za, zb, zc, zd, ze, zf, zg, zh, zi, zj, zk, zl, zm, zn, zo, dec_t, dec_f, ltI, leI, leN, le63, le40, le0, wrap64_id, wrapu64_id, wrap8_id]
  refine tr_nil (hK _ _ _ ?_)
  clear hK K hbase hfr base
  refine awp_region2_k (fun k => k == 14 || k == 11) (by rw [hB]; rfl) fun K hK base hbase hfr hfo => ?_
  refine tr_run ?_
  simp (disch := omega) only [go_sem, ↓reduceIte, za, zb, zc, zd, ze, zf, zg, zh, zi, zj, zk, zl, zm, zn, zo, dec_t, dec_f, ltI, leI, leN, le63, le40, le0, wrap64_id, wrapu64_id, wrap8_id]
  refine tr_nil (hK _ _ _ ?_)
  clear hK K hfr
  refine awp_obw (base + 1) (ds := stV st0) (setOb_same _ _ _) (by simp only [stV, st0, bagC, bag0, stE, List.replicate, List.flatMap_cons, List.flatMap_nil, List.map_nil, List.nil_append, List.cons_append, List.append_nil]; repeat (first | exact .nil | exact .cons (.refl _) .nil | refine .cons (.no _ _) ?_ | refine .cons (.refl _) ?_)) ?_
  rw [setOb_setOb]
  obtain ⟨oid, hoid, hoe⟩ : ∃ oid, B.g.nt ≤ oid ∧ base + 1 = oid := ⟨_, by omega, rfl⟩
  rw [hoe]
  clear hoe hbase hfo base
  have hon : σ.ob oid = none := hob _ hoid
  refine awp_seq ?_
  refine awp_region_k (fun k => k == 14 || k == 11) (by rw [hB]; rfl) fun K hK base hbase hfr => ?_
  refine tr_run ?_
  simp (disch := omega) only [go_sem, ↓reduceIte, za, zb, zc, zd, ze, zf, zg, zh, zi, zj, zk, zl, zm, zn, zo, dec_t, dec_f, ltI, leI, leN, le63, le40, le0, wrap64_id, wrapu64_id, wrap8_id]
  refine tr_nil (hK _ _ _ ?_)
  clear hK K hbase hfr base
  refine awp_block ?_
  refine awp_loop_w (α := Nat) (fun j => j ≤ 5) (fun j => [(5, .lref 5 0), (7, .bool true), (0, .int .i64 n), (1, .int .i64 part), (8, .ptr oid 0), (9, .int .i64 ((j : Int) + 2))]) (fun j => [(5, [.int .i64 x.k, .int .i64 x.n, .int .i64 x.p, .str x.raw])]) (fun j => σ.setOb oid (.cells (stV (stAt x j)))) (fun j => 5 - j) 0 ?_ ?_ ?_ (Sh.sub_refl _) ?_
  · exact Nat.zero_le _
  · exact Env.subW_one rfl <| Env.subW_one rfl <| Env.subW_one rfl <| Env.subW_one rfl <| Env.subW_one rfl <| Env.subW_one rfl <| Env.subW_nil _
  · exact Boxes.subW_one rfl <| Boxes.subW_nil _
  rintro j hj
  refine awp_seq ?_
  refine awp_region_k (fun k => k == 14 || k == 11) (by rw [hB]; rfl) fun K hK base hbase hfr => ?_
  refine tr_run ?_
  simp (disch := omega) only [go_sem, ↓reduceIte, za, zb, zc, zd, ze, zf, zg, zh, zi, zj, zk, zl, zm, zn, zo, dec_t, dec_f, ltI, leI, leN, le63, le40, le0, wrap64_id, wrapu64_id, wrap8_id]
  refine tr_nil (hK _ _ _ ?_)
  clear hK K hbase hfr base
  refine awp_cond (rfl) (fun h1 => ?_) (fun h1 => ?_)
  · try simp only [yb, yc, yd, ye, yf, yg, yh, yi, yj, yk, yl, ym, yn, yo] at h1
    refine awp_skip ?_
    refine then_n ?_
    refine awp_seq ?_
    refine awp_block ?_
    refine awp_region_k (fun k => k == 14 || k == 11) (by rw [hB]; rfl) fun K hK base hbase hfr => ?_
    refine tr_run ?_
    simp (disch := omega) only [go_sem, ↓reduceIte, za, zb, zc, zd, ze, zf, zg, zh, zi, zj, zk, zl, zm, zn, zo, dec_t, dec_f, ltI, leI, leN, le63, le40, le0, wrap64_id, wrapu64_id, wrap8_id]
    refine tr_nil (hK _ _ _ ?_)
    clear hK K hbase hfr base
    refine awp_region_k (fun k => k == 14 || k == 11) (by rw [hB]; rfl) fun K hK base hbase hfr => ?_
    refine tr_run ?_
    simp (disch := omega) only [go_sem, ↓reduceIte, za, zb, zc, zd, ze, zf, zg, zh, zi, zj, zk, zl, zm, zn, zo, dec_t, dec_f, ltI, leI, leN, le63, le40, le0, wrap64_id, wrapu64_id, wrap8_id]
    refine tr_nil (hK _ _ _ ?_)
    clear hK K hbase hfr base
    refine awp_region_e (fun k => k == 14 || k == 11) (by rw [hB]; rfl) fun K hK base hbase hfr => ?_
    refine tr_run ?_
    simp (disch := omega) only [go_sem, ↓reduceIte, za, zb, zc, zd, ze, zf, zg, zh, zi, zj, zk, zl, zm, zn, zo, withK, dec_t, dec_f, ltI, leI, leN, le63, le40, le0, wrap64_id, wrapu64_id, wrap8_id]
    refine tr_pc (by rfl) (by simp only [go_sem, ↓reduceIte, za, zb, zc, zd, ze, zf, zg, zh, zi, zj, zk, zl, zm, zn, zo, withK] <;> rfl) (c13 (withK x ((j : Int) + 2)) hx) ?_
    simp (disch := omega) only [go_sem, ↓reduceIte, za, zb, zc, zd, ze, zf, zg, zh, zi, zj, zk, zl, zm, zn, zo, withK, dec_t, dec_f, ltI, leI, leN, le63, le40, le0, wrap64_id, wrapu64_id, wrap8_id]
    refine tr_wc (by rfl) (by simp only [go_sem, ↓reduceIte, za, zb, zc, zd, ze, zf, zg, zh, zi, zj, zk, zl, zm, zn, zo, withK] <;> rfl) (c16r _ oid (stAt x j) (withK x ((j : Int) + 2)) (sok_at x j (by omega)) (setOb_same _ _ _) (by show 2 ≤ bits .and .i64 ((j : Int) + 2) 7; rw [band_k j (by omega)]; omega) (by show bits .and .i64 ((j : Int) + 2) 7 ≤ 6; rw [band_k j (by omega)]; omega)) ?_
    simp (disch := omega) only [go_sem, ↓reduceIte, za, zb, zc, zd, ze, zf, zg, zh, zi, zj, zk, zl, zm, zn, zo, withK, dec_t, dec_f, ltI, leI, leN, le63, le40, le0, wrap64_id, wrapu64_id, wrap8_id]
    refine tr_nil (hK _ _ _ ?_)
    clear hK K hbase hfr base
    refine block_n ?_
    refine then_n ?_
    refine awp_region_e (fun k => k == 14 || k == 11) (by rw [hB]; rfl) fun K hK base hbase hfr => ?_
    refine tr_run ?_
    simp (disch := omega) only [go_sem, ↓reduceIte, za, zb, zc, zd, ze, zf, zg, zh, zi, zj, zk, zl, zm, zn, zo, dec_t, dec_f, ltI, leI, leN, le63, le40, le0, wrap64_id, wrapu64_id, wrap8_id]
    refine tr_nil (hK _ _ _ ?_)
    clear hK K hbase hfr base
    refine then_n ⟨j + 1, ?_, ?_, ?_, ?_, Sh.sub_refl _⟩
    · show j + 1 ≤ 5; omega
    · show 5 - (j + 1) < 5 - j; omega
    · exact Env.subW_one rfl <| Env.subW_one rfl <| Env.subW_one rfl <| Env.subW_one rfl <| Env.subW_one rfl <| Env.subW_one (by refine congrArg (fun z => some (AV.int .i64 z)) ?_; omega) <| Env.subW_nil _
    · exact Boxes.subW_one rfl <| Boxes.subW_nil _
  · try simp only [yb, yc, yd, ye, yf, yg, yh, yi, yj, yk, yl, ym, yn, yo] at h1
    refine awp_exit ?_
    refine then_x ?_
    refine then_x ?_
    refine block_x ?_
    refine then_n ?_
    have hj5 : j = 5 := by omega
    subst hj5
    refine awp_drawn_a 8 11 (fun _ => false) (fun k => k == 14 || k == 11) (by rfl) (by rfl) (by kernel_rfl) (by kernel_rfl) rfl rfl rfl rfl rfl taz34 (by kernel_rfl) (by rw [hB]; rfl) fun K hK base hbase hfr hfo => ?_
    refine trd_run ?_
    simp (disch := omega) only [go_sem, ↓reduceIte, za, zb, zc, zd, ze, zf, zg, zh, zi, zj, zk, zl, zm, zn, zo, dec_t, dec_f, ltI, leI, leN, le63, le40, le0, wrap64_id, wrapu64_id, wrap8_id]
    refine trd_nil (tr_run ?_)
    simp (disch := omega) only [go_sem, ↓reduceIte, za, zb, zc, zd, ze, zf, zg, zh, zi, zj, zk, zl, zm, zn, zo, dec_t, dec_f, ltI, leI, leN, le63, le40, le0, wrap64_id, wrapu64_id, wrap8_id]
    refine tr_nil (hK _ _ _ ?_)
    clear hK K hfr
    obtain ⟨bid, hbf, hbe⟩ : ∃ bid, (∀ n, bid ≤ n → (σ.setOb oid (.cells (stV (stAt x 5)))).ob n = none) ∧ base + 8 = bid := ⟨_, fun n hn => hfo n (by omega), rfl⟩
    rw [hbe, rc_bag x]
    clear hbe hbase hfo base
    have hbo : oid ≠ bid := fun e => by have := hbf bid (Nat.le_refl _); rw [← e, setOb_same] at this; cases this
    refine awp_drawn_k (fun f => f == 17 || f == 18 || f == 19 || f == 20 || f == 21 || f == 22 || f == 23 || f == 24 || f == 25 || f == 26 || f == 27 || f == 28) (fun k => k == 14 || k == 11) (by kernel_rfl) (by decide) (by rw [hB]; rfl) fun K hK base hbase hfr => ?_
    refine trd_run ?_
    simp (disch := omega) only [go_sem, ↓reduceIte, za, zb, zc, zd, ze, zf, zg, zh, zi, zj, zk, zl, zm, zn, zo, setOb_ne, dec_t, dec_f, ltI, leI, leN, le63, le40, le0, wrap64_id, wrapu64_id, wrap8_id]
    refine trd_pc (by kernel_rfl) (by simp only [go_sem, ↓reduceIte, za, zb, zc, zd, ze, zf, zg, zh, zi, zj, zk, zl, zm, zn, zo, setOb_ne]) (by simp only [go_sem, ↓reduceIte, za, zb, zc, zd, ze, zf, zg, zh, zi, zj, zk, zl, zm, zn, zo, setOb_ne] <;> rfl) (c17 n hn) ?_
    simp (disch := omega) only [go_sem, ↓reduceIte, za, zb, zc, zd, ze, zf, zg, zh, zi, zj, zk, zl, zm, zn, zo, setOb_ne, dec_t, dec_f, ltI, leI, leN, le63, le40, le0, wrap64_id, wrapu64_id, wrap8_id]
    refine trd_pc (by kernel_rfl) (by simp only [go_sem, ↓reduceIte, za, zb, zc, zd, ze, zf, zg, zh, zi, zj, zk, zl, zm, zn, zo, setOb_ne]) (by simp only [go_sem, ↓reduceIte, za, zb, zc, zd, ze, zf, zg, zh, zi, zj, zk, zl, zm, zn, zo, setOb_ne] <;> rfl) (c18 n hn) ?_
    simp (disch := omega) only [go_sem, ↓reduceIte, za, zb, zc, zd, ze, zf, zg, zh, zi, zj, zk, zl, zm, zn, zo, setOb_ne, dec_t, dec_f, ltI, leI, leN, le63, le40, le0, wrap64_id, wrapu64_id, wrap8_id]
    refine trd_pc (by kernel_rfl) (by simp only [go_sem, ↓reduceIte, za, zb, zc, zd, ze, zf, zg, zh, zi, zj, zk, zl, zm, zn, zo, setOb_ne]) (by simp only [go_sem, ↓reduceIte, za, zb, zc, zd, ze, zf, zg, zh, zi, zj, zk, zl, zm, zn, zo, setOb_ne] <;> rfl) (c19 n hn) ?_
    simp (disch := omega) only [go_sem, ↓reduceIte, za, zb, zc, zd, ze, zf, zg, zh, zi, zj, zk, zl, zm, zn, zo, setOb_ne, dec_t, dec_f, ltI, leI, leN, le63, le40, le0, wrap64_id, wrapu64_id, wrap8_id]
    refine trd_pc (by kernel_rfl) (by simp only [go_sem, ↓reduceIte, za, zb, zc, zd, ze, zf, zg, zh, zi, zj, zk, zl, zm, zn, zo, setOb_ne]) (by simp only [go_sem, ↓reduceIte, za, zb, zc, zd, ze, zf, zg, zh, zi, zj, zk, zl, zm, zn, zo, setOb_ne] <;> rfl) (c20 n hn) ?_
    simp (disch := omega) only [go_sem, ↓reduceIte, za, zb, zc, zd, ze, zf, zg, zh, zi, zj, zk, zl, zm, zn, zo, setOb_ne, dec_t, dec_f, ltI, leI, leN, le63, le40, le0, wrap64_id, wrapu64_id, wrap8_id]
    refine trd_pc (by kernel_rfl) (by simp only [go_sem, ↓reduceIte, za, zb, zc, zd, ze, zf, zg, zh, zi, zj, zk, zl, zm, zn, zo, setOb_ne]) (by simp only [go_sem, ↓reduceIte, za, zb, zc, zd, ze, zf, zg, zh, zi, zj, zk, zl, zm, zn, zo, setOb_ne] <;> rfl) (c21 part hp (bagZ x) .no .no .no (bagZ63 x).1 (Nat.le_trans (bagZ63 x).2 (by decide))) ?_
    simp (disch := omega) only [go_sem, ↓reduceIte, za, zb, zc, zd, ze, zf, zg, zh, zi, zj, zk, zl, zm, zn, zo, setOb_ne, dec_t, dec_f, ltI, leI, leN, le63, le40, le0, wrap64_id, wrapu64_id, wrap8_id]
    refine trd_pc (by kernel_rfl) (by simp only [go_sem, ↓reduceIte, za, zb, zc, zd, ze, zf, zg, zh, zi, zj, zk, zl, zm, zn, zo, setOb_ne]) (by simp only [go_sem, ↓reduceIte, za, zb, zc, zd, ze, zf, zg, zh, zi, zj, zk, zl, zm, zn, zo, setOb_ne] <;> rfl) (c22 part hp (bagZ x) .no .no .no (bagZ63 x).1 (Nat.le_trans (bagZ63 x).2 (by decide))) ?_
    simp (disch := omega) only [go_sem, ↓reduceIte, za, zb, zc, zd, ze, zf, zg, zh, zi, zj, zk, zl, zm, zn, zo, setOb_ne, dec_t, dec_f, ltI, leI, leN, le63, le40, le0, wrap64_id, wrapu64_id, wrap8_id]
    refine trd_pc (by kernel_rfl) (by simp only [go_sem, ↓reduceIte, za, zb, zc, zd, ze, zf, zg, zh, zi, zj, zk, zl, zm, zn, zo, setOb_ne]) (by simp only [go_sem, ↓reduceIte, za, zb, zc, zd, ze, zf, zg, zh, zi, zj, zk, zl, zm, zn, zo, setOb_ne] <;> rfl) (c23 (stAt x 5).tags .no (by rw [htags]; show 1 ≤ 9223372036854775807; decide) (by rw [htags]; exact (tg63 x.n).1) (by rw [htags]; exact Nat.le_trans (tg63 x.n).2 (by decide))) ?_
    simp (disch := omega) only [go_sem, ↓reduceIte, za, zb, zc, zd, ze, zf, zg, zh, zi, zj, zk, zl, zm, zn, zo, setOb_ne, dec_t, dec_f, ltI, leI, leN, le63, le40, le0, wrap64_id, wrapu64_id, wrap8_id]
    refine trd_pc (by kernel_rfl) (by simp only [go_sem, ↓reduceIte, za, zb, zc, zd, ze, zf, zg, zh, zi, zj, zk, zl, zm, zn, zo, setOb_ne]) (by simp only [go_sem, ↓reduceIte, za, zb, zc, zd, ze, zf, zg, zh, zi, zj, zk, zl, zm, zn, zo, setOb_ne] <;> rfl) (c24 (stAt x 5).tags .no (by rw [htags]; show 1 ≤ 9223372036854775807; decide) (by rw [htags]; exact (tg63 x.n).1) (by rw [htags]; exact Nat.le_trans (tg63 x.n).2 (by decide))) ?_
    simp (disch := omega) only [go_sem, ↓reduceIte, za, zb, zc, zd, ze, zf, zg, zh, zi, zj, zk, zl, zm, zn, zo, setOb_ne, dec_t, dec_f, ltI, leI, leN, le63, le40, le0, wrap64_id, wrapu64_id, wrap8_id]
    refine trd_pc (by kernel_rfl) (by simp only [go_sem, ↓reduceIte, za, zb, zc, zd, ze, zf, zg, zh, zi, zj, zk, zl, zm, zn, zo, setOb_ne]) (by simp only [go_sem, ↓reduceIte, za, zb, zc, zd, ze, zf, zg, zh, zi, zj, zk, zl, zm, zn, zo, setOb_ne] <;> rfl) (c25 (stAt x 5).view .no (by rw [hview]; show 1 ≤ 9223372036854775807; decide) (by rw [hview]; exact (peer63 x.n).1) (by rw [hview]; exact Nat.le_trans (peer63 x.n).2 (by decide))) ?_
    simp (disch := omega) only [go_sem, ↓reduceIte, za, zb, zc, zd, ze, zf, zg, zh, zi, zj, zk, zl, zm, zn, zo, setOb_ne, dec_t, dec_f, ltI, leI, leN, le63, le40, le0, wrap64_id, wrapu64_id, wrap8_id]
    refine trd_pc (by kernel_rfl) (by simp only [go_sem, ↓reduceIte, za, zb, zc, zd, ze, zf, zg, zh, zi, zj, zk, zl, zm, zn, zo, setOb_ne]) (by simp only [go_sem, ↓reduceIte, za, zb, zc, zd, ze, zf, zg, zh, zi, zj, zk, zl, zm, zn, zo, setOb_ne] <;> rfl) (c26 (stAt x 5).view .no (by rw [hview]; show 1 ≤ 9223372036854775807; decide) (by rw [hview]; exact (peer63 x.n).1) (by rw [hview]; exact Nat.le_trans (peer63 x.n).2 (by decide))) ?_
    simp (disch := omega) only [go_sem, ↓reduceIte, za, zb, zc, zd, ze, zf, zg, zh, zi, zj, zk, zl, zm, zn, zo, setOb_ne, dec_t, dec_f, ltI, leI, leN, le63, le40, le0, wrap64_id, wrapu64_id, wrap8_id]
    refine trd_pc (by kernel_rfl) (by simp only [go_sem, ↓reduceIte, za, zb, zc, zd, ze, zf, zg, zh, zi, zj, zk, zl, zm, zn, zo, setOb_ne]) (by simp only [go_sem, ↓reduceIte, za, zb, zc, zd, ze, zf, zg, zh, zi, zj, zk, zl, zm, zn, zo, setOb_ne] <;> rfl) (c27 (stAt x 5).holds .no (by rw [hholds]; show 1 ≤ 9223372036854775807; decide) (by rw [hholds]; exact (hold63 x.n).1) (by rw [hholds]; exact Nat.le_trans (hold63 x.n).2 (by decide))) ?_
    simp (disch := omega) only [go_sem, ↓reduceIte, za, zb, zc, zd, ze, zf, zg, zh, zi, zj, zk, zl, zm, zn, zo, setOb_ne, dec_t, dec_f, ltI, leI, leN, le63, le40, le0, wrap64_id, wrapu64_id, wrap8_id]
    refine trd_pc (by kernel_rfl) (by simp only [go_sem, ↓reduceIte, za, zb, zc, zd, ze, zf, zg, zh, zi, zj, zk, zl, zm, zn, zo, setOb_ne]) (by simp only [go_sem, ↓reduceIte, za, zb, zc, zd, ze, zf, zg, zh, zi, zj, zk, zl, zm, zn, zo, setOb_ne] <;> rfl) (c28 (stAt x 5).holds .no (by rw [hholds]; show 1 ≤ 9223372036854775807; decide) (by rw [hholds]; exact (hold63 x.n).1) (by rw [hholds]; exact Nat.le_trans (hold63 x.n).2 (by decide))) ?_
    simp (disch := omega) only [go_sem, ↓reduceIte, za, zb, zc, zd, ze, zf, zg, zh, zi, zj, zk, zl, zm, zn, zo, setOb_ne, dec_t, dec_f, ltI, leI, leN, le63, le40, le0, wrap64_id, wrapu64_id, wrap8_id]
    refine trd_nil (hK _ _ _ ?_)
    clear hK K hbase hfr base
    refine awp_ret ?_
    exact ⟨_, rfl, VW.refl _, fun i o h => obs_new (hbf _ (Nat.le_refl _)) i o (obs_new hon i o h), fun _ h => h⟩
end Go.Am
