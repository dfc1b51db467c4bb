/- What functions of this program compute, a part: see the main text. No conditions. -/
import Derived.Test.YtanpeaakmdffcaaGreatW20
set_option linter.all false
set_option maxRecDepth 100000
namespace Go.Am
open Go
open Nat renaming reduceEqDiff → za, reduceAdd → zb, reduceMul → zc, reducePow → zd, reduceLeDiff → ze, reduceSub → zf, reduceBEq → zg, reduceBNe → zh, reduceDiv → zi, reduceMod → zj
open Int renaming reduceLT → zk, reduceLE → zl, reduceEq → zm, reduceNe → zn, reduceToNat → zo

def hMay (h : Hold) : Bool := dCheck h.d && (decide (1 ≤ h.r) && (decide (h.r ≤ 1099511627776) && (decide (1 ≤ h.u) && decide (h.u ≤ 1125899906842624))))
def hLt (a b : Hold) : Bool := dLess a.d b.d
def hCheck (l : List Hold) : Bool := decide (l.length ≤ 1000) && chkGo hMay hLt none l
def rHold1 (r : Rd) : Rd := (rDot r).2
def rHold2 (r : Rd) : Rd := (rInt 1099511627776 (rHold1 r)).2
def rHold (r : Rd) : Hold × Rd := (⟨(rDot r).1, (rInt 1099511627776 (rHold1 r)).1, (rInt 1125899906842624 (rHold2 r)).1⟩, (rInt 1125899906842624 (rHold2 r)).2)
def rHolds : Rd → List Hold × Rd := rdL rHold hCheck 1000
theorem c164 (h : Hold) : PCalls Go.Proofs.Tryz.prog 164 [holdV h] (.bool (hMay h)) := by
  refine pcalls_of_awp Go.Proofs.Tryz.func164 rfl (by decide) (Nat.le_of_ble_eq_true rfl) ?_
  intro B σ hB ho hob
  refine awp_region_k (fun _ => false) (by rw [hB]; rfl) fun K hK base hbase hfr => ?_
  refine tr_run ?_
  simp (disch := omega) only [go_sem, ↓reduceIte, za, zb, zc, zd, ze, zf, zg, zh, zi, zj, zk, zl, zm, zn, zo, dec_t, dec_f, ltI, leI, leN, le63, le40, le0, wrap64_id, wrapu64_id, wrap8_id]
  refine tr_nil (hK _ _ _ ?_)
  clear hK K hbase hfr base
  refine awp_region_k (fun _ => false) (by rw [hB]; rfl) fun K hK base hbase hfr => ?_
  refine tr_run ?_
  simp (disch := omega) only [go_sem, ↓reduceIte, za, zb, zc, zd, ze, zf, zg, zh, zi, zj, zk, zl, zm, zn, zo, dec_t, dec_f, ltI, leI, leN, le63, le40, le0, wrap64_id, wrapu64_id, wrap8_id]
  refine tr_pc (by rfl) (by simp only [go_sem, ↓reduceIte, za, zb, zc, zd, ze, zf, zg, zh, zi, zj, zk, zl, zm, zn, zo] <;> rfl) (c99 h.d) ?_
  simp (disch := omega) only [go_sem, ↓reduceIte, za, zb, zc, zd, ze, zf, zg, zh, zi, zj, zk, zl, zm, zn, zo, dec_t, dec_f, ltI, leI, leN, le63, le40, le0, wrap64_id, wrapu64_id, wrap8_id]
  refine tr_nil (hK _ _ _ ?_)
  clear hK K hbase hfr base
  refine awp_region_k (fun _ => false) (by rw [hB]; rfl) fun K hK base hbase hfr => ?_
  rcases q1 : dCheck h.d with _ | _
  · skip
    refine tr_run ?_
    simp (disch := omega) only [go_sem, ↓reduceIte, za, zb, zc, zd, ze, zf, zg, zh, zi, zj, zk, zl, zm, zn, zo, q1, dec_t, dec_f, ltI, leI, leN, le63, le40, le0, wrap64_id, wrapu64_id, wrap8_id]
    refine tr_nil (hK _ _ _ ?_)
    clear hK K hbase hfr base
    try simp only [yb, yc, yd, ye, yf, yg, yh, yi, yj, yk, yl, ym, yn, yo] at q1
    refine awp_ret ?_
    refine ⟨_, rfl, ?_, fun _ _ h => h, fun _ h => h⟩
    have e : hMay h = false := by unfold hMay; simp only [Bool.and_eq_false_iff, decide_eq_false_iff_not]; first | omega | simp_all
    rw [e]; exact VW.refl _
  · skip
    rcases q2 : decide (1 ≤ h.r) with _ | _
    · skip
      refine tr_run ?_
      simp (disch := omega) only [go_sem, ↓reduceIte, za, zb, zc, zd, ze, zf, zg, zh, zi, zj, zk, zl, zm, zn, zo, q1, q2, dec_t, dec_f, ltI, leI, leN, le63, le40, le0, wrap64_id, wrapu64_id, wrap8_id]
      refine tr_nil (hK _ _ _ ?_)
      clear hK K hbase hfr base
      try simp only [yb, yc, yd, ye, yf, yg, yh, yi, yj, yk, yl, ym, yn, yo] at q1
      try simp only [yb, yc, yd, ye, yf, yg, yh, yi, yj, yk, yl, ym, yn, yo] at q2
      refine awp_ret ?_
      refine ⟨_, rfl, ?_, fun _ _ h => h, fun _ h => h⟩
      have e : hMay h = false := by unfold hMay; simp only [Bool.and_eq_false_iff, decide_eq_false_iff_not]; first | omega | simp_all
      rw [e]; exact VW.refl _
    · skip
      rcases q3 : decide (h.r ≤ 1099511627776) with _ | _
      · skip
        refine tr_run ?_
        simp (disch := omega) only [go_sem, ↓reduceIte, za, zb, zc, zd, ze, zf, zg, zh, zi, zj, zk, zl, zm, zn, zo, q1, q2, q3, dec_t, dec_f, ltI, leI, leN, le63, le40, le0, wrap64_id, wrapu64_id, wrap8_id]
        refine tr_nil (hK _ _ _ ?_)
        clear hK K hbase hfr base
        try simp only [yb, yc, yd, ye, yf, yg, yh, yi, yj, yk, yl, ym, yn, yo] at q1
        try simp only [yb, yc, yd, ye, yf, yg, yh, yi, yj, yk, yl, ym, yn, yo] at q2
        try simp only [yb, yc, yd, ye, yf, yg, yh, yi, yj, yk, yl, ym, yn, yo] at q3
        refine awp_ret ?_
        refine ⟨_, rfl, ?_, fun _ _ h => h, fun _ h => h⟩
        have e : hMay h = false := by unfold hMay; simp only [Bool.and_eq_false_iff, decide_eq_false_iff_not]; first | omega | simp_all
        rw [e]; exact VW.refl _
      · skip
        rcases q4 : decide (1 ≤ h.u) with _ | _
        · skip
          refine tr_run ?_
          simp (disch := omega) only [go_sem, ↓reduceIte, za, zb, zc, zd, ze, zf, zg, zh, zi, zj, zk, zl, zm, zn, zo, q1, q2, q3, q4, dec_t, dec_f, ltI, leI, leN, le63, le40, le0, wrap64_id, wrapu64_id, wrap8_id]
          refine tr_nil (hK _ _ _ ?_)
          clear hK K hbase hfr base
          try simp only [yb, yc, yd, ye, yf, yg, yh, yi, yj, yk, yl, ym, yn, yo] at q1
          try simp only [yb, yc, yd, ye, yf, yg, yh, yi, yj, yk, yl, ym, yn, yo] at q2
          try simp only [yb, yc, yd, ye, yf, yg, yh, yi, yj, yk, yl, ym, yn, yo] at q3
          try simp only [yb, yc, yd, ye, yf, yg, yh, yi, yj, yk, yl, ym, yn, yo] at q4
          refine awp_ret ?_
          refine ⟨_, rfl, ?_, fun _ _ h => h, fun _ h => h⟩
          have e : hMay h = false := by unfold hMay; simp only [Bool.and_eq_false_iff, decide_eq_false_iff_not]; first | omega | simp_all
          rw [e]; exact VW.refl _
        · skip
          refine tr_run ?_
          simp (disch := omega) only [go_sem, ↓reduceIte, za, zb, zc, zd, ze, zf, zg, zh, zi, zj, zk, zl, zm, zn, zo, q1, q2, q3, q4, dec_t, dec_f, ltI, leI, leN, le63, le40, le0, wrap64_id, wrapu64_id, wrap8_id]
          refine tr_nil (hK _ _ _ ?_)
          clear hK K hbase hfr base
          try simp only [yb, yc, yd, ye, yf, yg, yh, yi, yj, yk, yl, ym, yn, yo] at q1
          try simp only [yb, yc, yd, ye, yf, yg, yh, yi, yj, yk, yl, ym, yn, yo] at q2
          try simp only [yb, yc, yd, ye, yf, yg, yh, yi, yj, yk, yl, ym, yn, yo] at q3
          try simp only [yb, yc, yd, ye, yf, yg, yh, yi, yj, yk, yl, ym, yn, yo] at q4
          refine awp_ret ?_
          refine ⟨_, rfl, ?_, fun _ _ h => h, fun _ h => h⟩
          have e : hMay h = decide (h.u ≤ 1125899906842624) := by unfold hMay; simp (disch := omega) only [dec_t, Bool.true_and, *, decide_true]
          rw [e]; exact VW.refl _
theorem c116 (l : List Hold) (tg : Tag) : PCalls Go.Proofs.Tryz.prog 116 [.list (l.map holdV) tg] (.int .i64 (if hCheck l then 0 else 1)) := by
  refine pcalls_of_awp Go.Proofs.Tryz.func116 rfl (by decide) (Nat.le_of_ble_eq_true rfl) ?_
  intro B σ hB ho hob
  refine awp_region_k (fun _ => false) (by rw [hB]; rfl) fun K hK base hbase hfr => ?_
  refine tr_run ?_
  simp (disch := omega) only [go_sem, ↓reduceIte, za, zb, zc, zd, ze, zf, zg, zh, zi, zj, zk, zl, zm, zn, zo, dec_t, dec_f, ltI, leI, leN, le63, le40, le0, wrap64_id, wrapu64_id, wrap8_id]
  refine tr_nil (hK _ _ _ ?_)
  clear hK K hbase hfr base
  refine awp_seq ?_
  refine awp_region_k (fun _ => false) (by rw [hB]; rfl) fun K hK base hbase hfr => ?_
  refine tr_run ?_
  simp (disch := omega) only [go_sem, ↓reduceIte, za, zb, zc, zd, ze, zf, zg, zh, zi, zj, zk, zl, zm, zn, zo, dec_t, dec_f, ltI, leI, leN, le63, le40, le0, wrap64_id, wrapu64_id, wrap8_id]
  refine tr_nil (hK _ _ _ ?_)
  clear hK K hbase hfr base
  refine awp_len 5 rfl fun hlen => ?_
  simp only [List.length_map] at hlen
  refine awp_cond (rfl) (fun h1 => ?_) (fun h1 => ?_)
  · try simp only [yb, yc, yd, ye, yf, yg, yh, yi, yj, yk, yl, ym, yn, yo] at h1
    refine awp_region_k (fun _ => false) (by rw [hB]; rfl) fun K hK base hbase hfr => ?_
    refine tr_run ?_
    simp (disch := omega) only [go_sem, ↓reduceIte, za, zb, zc, zd, ze, zf, zg, zh, zi, zj, zk, zl, zm, zn, zo, dec_t, dec_f, ltI, leI, leN, le63, le40, le0, wrap64_id, wrapu64_id, wrap8_id]
    refine tr_nil (hK _ _ _ ?_)
    clear hK K hbase hfr base
    refine awp_ret ?_
    refine then_r ?_
    rw [show hCheck l = false by unfold hCheck; rw [dec_f (by omega)]; rfl]
    exact ⟨_, rfl, VW.refl _, fun _ _ h => h, fun _ h => h⟩
  · try simp only [yb, yc, yd, ye, yf, yg, yh, yi, yj, yk, yl, ym, yn, yo] at h1
    refine awp_skip ?_
    refine then_n ?_
    refine awp_seq ?_
    refine awp_region_k (fun _ => false) (by rw [hB]; rfl) fun K hK base hbase hfr => ?_
    refine tr_run ?_
    simp (disch := omega) only [go_sem, ↓reduceIte, za, zb, zc, zd, ze, zf, zg, zh, zi, zj, zk, zl, zm, zn, zo, dec_t, dec_f, ltI, leI, leN, le63, le40, le0, wrap64_id, wrapu64_id, wrap8_id]
    refine tr_nil (hK _ _ _ ?_)
    clear hK K hbase hfr base
    refine awp_block ?_
    refine awp_loop_w (α := Nat) (fun x => chkGo hMay hLt (prevL l x) (l.drop x) = chkGo hMay hLt none l) (fun x => [(0, .list (l.map holdV) tg), (2, .int .i64 0), (3, .int .i64 x)]) (fun x => []) (fun x => σ) (fun x => l.length - x) 0 ?_ ?_ (Boxes.subW_nil _) (Sh.sub_refl _) ?_
    · exact rfl
    · exact Env.subW_one rfl <| Env.subW_one rfl <| Env.subW_one rfl <| Env.subW_nil _
    rintro i h0
    try dsimp only at h0
    refine awp_seq ?_
    refine awp_region_k (fun _ => false) (by rw [hB]; rfl) fun K hK base hbase hfr => ?_
    refine tr_run ?_
    simp (disch := omega) only [go_sem, ↓reduceIte, za, zb, zc, zd, ze, zf, zg, zh, zi, zj, zk, zl, zm, zn, zo, dec_t, dec_f, ltI, leI, leN, le63, le40, le0, wrap64_id, wrapu64_id, wrap8_id]
    refine tr_nil (hK _ _ _ ?_)
    clear hK K hbase hfr base
    refine awp_cond (rfl) (fun h2 => ?_) (fun h2 => ?_)
    · try simp only [yb, yc, yd, ye, yf, yg, yh, yi, yj, yk, yl, ym, yn, yo] at h2
      obtain ⟨x, hx, hm, hi⟩ := get_of_lt h2
      obtain ⟨y, hy⟩ : ∃ y, l[i - 1]? = some y := ⟨l[i - 1], List.getElem?_eq_getElem (by omega)⟩
      have hip : ((i : Int) - 1).toNat = i - 1 := by omega
      refine awp_skip ?_
      refine then_n ?_
      refine awp_seq ?_
      refine awp_block ?_
      refine awp_region_k (fun _ => false) (by rw [hB]; rfl) fun K hK base hbase hfr => ?_
      refine tr_run ?_
      simp (disch := omega) only [go_sem, ↓reduceIte, za, zb, zc, zd, ze, zf, zg, zh, zi, zj, zk, zl, zm, zn, zo, hx, dec_t, dec_f, ltI, leI, leN, le63, le40, le0, wrap64_id, wrapu64_id, wrap8_id]
      refine tr_pc (by rfl) (by simp only [go_sem, ↓reduceIte, za, zb, zc, zd, ze, zf, zg, zh, zi, zj, zk, zl, zm, zn, zo, hx] <;> rfl) (c164 x) ?_
      simp (disch := omega) only [go_sem, ↓reduceIte, za, zb, zc, zd, ze, zf, zg, zh, zi, zj, zk, zl, zm, zn, zo, hx, dec_t, dec_f, ltI, leI, leN, le63, le40, le0, wrap64_id, wrapu64_id, wrap8_id]
      refine tr_nil (hK _ _ _ ?_)
      clear hK K hbase hfr base
      refine awp_seq ?_
      refine awp_region_k (fun _ => false) (by rw [hB]; rfl) fun K hK base hbase hfr => ?_
      refine tr_run ?_
      simp (disch := omega) only [go_sem, ↓reduceIte, za, zb, zc, zd, ze, zf, zg, zh, zi, zj, zk, zl, zm, zn, zo, dec_t, dec_f, ltI, leI, leN, le63, le40, le0, wrap64_id, wrapu64_id, wrap8_id]
      refine tr_nil (hK _ _ _ ?_)
      clear hK K hbase hfr base
      refine awp_cond (rfl) (fun h3 => ?_) (fun h3 => ?_)
      · try simp only [yb, yc, yd, ye, yf, yg, yh, yi, yj, yk, yl, ym, yn, yo] at h3
        refine awp_region_k (fun _ => false) (by rw [hB]; rfl) fun K hK base hbase hfr => ?_
        refine tr_run ?_
        simp (disch := omega) only [go_sem, ↓reduceIte, za, zb, zc, zd, ze, zf, zg, zh, zi, zj, zk, zl, zm, zn, zo, dec_t, dec_f, ltI, leI, leN, le63, le40, le0, wrap64_id, wrapu64_id, wrap8_id]
        refine tr_nil (hK _ _ _ ?_)
        clear hK K hbase hfr base
        refine awp_ret ?_
        refine then_r ?_
        refine block_r ?_
        refine then_r ?_
        refine then_r ?_
        refine block_r ?_
        refine then_r ?_
        rw [show hCheck l = false by unfold hCheck; rw [chk_ok hx (by simp_all) h0]; simp]
        exact ⟨_, rfl, VW.refl _, fun _ _ h => h, fun _ h => h⟩
      · try simp only [yb, yc, yd, ye, yf, yg, yh, yi, yj, yk, yl, ym, yn, yo] at h3
        refine awp_skip ?_
        refine then_n ?_
        refine awp_drawn_k (fun f => f == 160) (fun _ => false) (by kernel_rfl) (by decide) (by rw [hB]; rfl) fun K hK base hbase hfr => ?_
        rcases q4 : decide ((0 : Int) < (i : Int)) with _ | _
        · skip
          refine trd_run ?_
          try have hpos : (0 : Int) < (i : Int) := of_decide_eq_true (by assumption)
          simp (disch := omega) only [go_sem, ↓reduceIte, za, zb, zc, zd, ze, zf, zg, zh, zi, zj, zk, zl, zm, zn, zo, hx, hy, hip, q4, dec_t, dec_f, ltI, leI, leN, le63, le40, le0, wrap64_id, wrapu64_id, wrap8_id]
          refine trd_nil (hK _ _ _ ?_)
          clear hK K hbase hfr base
          try simp only [yb, yc, yd, ye, yf, yg, yh, yi, yj, yk, yl, ym, yn, yo] at q4
          refine awp_cond (rfl) (fun h5 => by cases h5) (fun h5 => ?_)
          refine awp_skip ?_
          refine block_n ?_
          refine then_n ?_
          refine awp_region_e (fun _ => false) (by rw [hB]; rfl) fun K hK base hbase hfr => ?_
          refine tr_run ?_
          simp (disch := omega) only [go_sem, ↓reduceIte, za, zb, zc, zd, ze, zf, zg, zh, zi, zj, zk, zl, zm, zn, zo, dec_t, dec_f, ltI, leI, leN, le63, le40, le0, wrap64_id, wrapu64_id, wrap8_id]
          refine tr_nil (hK _ _ _ ?_)
          clear hK K hbase hfr base
          refine then_n ⟨i + 1, ?_, ?_, ?_, ?_, Sh.sub_refl _⟩
          · exact chk_zero hx (by omega) (by simp_all) h0
          · show l.length - (i + 1) < l.length - i; omega
          · exact Env.subW_one rfl <| Env.subW_one rfl <| Env.subW_one rfl <| Env.subW_nil _
          · exact Boxes.subW_nil _
        · skip
          refine trd_run ?_
          try have hpos : (0 : Int) < (i : Int) := of_decide_eq_true (by assumption)
          simp (disch := omega) only [go_sem, ↓reduceIte, za, zb, zc, zd, ze, zf, zg, zh, zi, zj, zk, zl, zm, zn, zo, hx, hy, hip, q4, dec_t, dec_f, ltI, leI, leN, le63, le40, le0, wrap64_id, wrapu64_id, wrap8_id]
          refine trd_pc (by kernel_rfl) (by simp only [go_sem, ↓reduceIte, za, zb, zc, zd, ze, zf, zg, zh, zi, zj, zk, zl, zm, zn, zo, hx, hy, hip, q4]) (by simp only [go_sem, ↓reduceIte, za, zb, zc, zd, ze, zf, zg, zh, zi, zj, zk, zl, zm, zn, zo, hx, hy, hip, q4] <;> rfl) (c160 y.d x.d) ?_
          simp (disch := omega) only [go_sem, ↓reduceIte, za, zb, zc, zd, ze, zf, zg, zh, zi, zj, zk, zl, zm, zn, zo, hx, hy, hip, q4, dec_t, dec_f, ltI, leI, leN, le63, le40, le0, wrap64_id, wrapu64_id, wrap8_id]
          refine trd_nil (hK _ _ _ ?_)
          clear hK K hbase hfr base
          try simp only [yb, yc, yd, ye, yf, yg, yh, yi, yj, yk, yl, ym, yn, yo] at q4
          refine awp_cond (rfl) (fun h6 => ?_) (fun h6 => ?_)
          · try simp only [yb, yc, yd, ye, yf, yg, yh, yi, yj, yk, yl, ym, yn, yo] at h6
            refine awp_region_k (fun _ => false) (by rw [hB]; rfl) fun K hK base hbase hfr => ?_
            refine tr_run ?_
            simp (disch := omega) only [go_sem, ↓reduceIte, za, zb, zc, zd, ze, zf, zg, zh, zi, zj, zk, zl, zm, zn, zo, dec_t, dec_f, ltI, leI, leN, le63, le40, le0, wrap64_id, wrapu64_id, wrap8_id]
            refine tr_nil (hK _ _ _ ?_)
            clear hK K hbase hfr base
            refine awp_ret ?_
            refine block_r ?_
            refine then_r ?_
            refine then_r ?_
            refine block_r ?_
            refine then_r ?_
            rw [show hCheck l = false by unfold hCheck; rw [chk_lt hx hy (by omega) (by show dLess y.d x.d = false; cases hh : dLess y.d x.d <;> simp_all) h0]; simp]
            exact ⟨_, rfl, VW.refl _, fun _ _ h => h, fun _ h => h⟩
          · try simp only [yb, yc, yd, ye, yf, yg, yh, yi, yj, yk, yl, ym, yn, yo] at h6
            refine awp_skip ?_
            refine block_n ?_
            refine then_n ?_
            refine awp_region_e (fun _ => false) (by rw [hB]; rfl) fun K hK base hbase hfr => ?_
            refine tr_run ?_
            simp (disch := omega) only [go_sem, ↓reduceIte, za, zb, zc, zd, ze, zf, zg, zh, zi, zj, zk, zl, zm, zn, zo, dec_t, dec_f, ltI, leI, leN, le63, le40, le0, wrap64_id, wrapu64_id, wrap8_id]
            refine tr_nil (hK _ _ _ ?_)
            clear hK K hbase hfr base
            refine then_n ⟨i + 1, ?_, ?_, ?_, ?_, Sh.sub_refl _⟩
            · exact chk_next hx hy (by omega) (by simp_all) (by show dLess y.d x.d = true; simp_all) h0
            · show l.length - (i + 1) < l.length - i; omega
            · exact Env.subW_one rfl <| Env.subW_one rfl <| Env.subW_one rfl <| Env.subW_nil _
            · exact Boxes.subW_nil _
    · try simp only [yb, yc, yd, ye, yf, yg, yh, yi, yj, yk, yl, ym, yn, yo] at h2
      refine awp_exit ?_
      refine then_x ?_
      refine then_x ?_
      refine block_x ?_
      refine then_n ?_
      refine awp_region_k (fun _ => false) (by rw [hB]; rfl) fun K hK base hbase hfr => ?_
      refine tr_run ?_
      simp (disch := omega) only [go_sem, ↓reduceIte, za, zb, zc, zd, ze, zf, zg, zh, zi, zj, zk, zl, zm, zn, zo, dec_t, dec_f, ltI, leI, leN, le63, le40, le0, wrap64_id, wrapu64_id, wrap8_id]
      refine tr_nil (hK _ _ _ ?_)
      clear hK K hbase hfr base
      refine awp_ret ?_
      rw [show hCheck l = true by unfold hCheck; rw [dec_t (by omega), chk_end (by omega) h0]; rfl]
      exact ⟨_, rfl, VW.refl _, fun _ _ h => h, fun _ h => h⟩
theorem c53 (σ : Sh) (oid : Nat) (r : Rd) (hσ : σ.ob oid = some (.cells (rdV r))) : WCalls Go.Proofs.Tryz.prog 53 [.ptr oid 0] σ (.list ((rdL rHold hCheck 1000 r).1.map holdV) .no) (σ.setOb oid (.cells (rdV (rdL rHold hCheck 1000 r).2))) := by
  obtain ⟨hge, hle⟩ := rInt_le 1000 r (by decide)
  refine wcalls_of_awp Go.Proofs.Tryz.func53 rfl (by decide) (Nat.le_of_ble_eq_true rfl) ?_
  intro B hB ho hob
  refine awp_region_k (fun _ => false) (by rw [hB]; rfl) fun K hK base hbase hfr => ?_
  refine tr_run ?_
  simp (disch := omega) only [go_sem, ↓reduceIte, za, zb, zc, zd, ze, zf, zg, zh, zi, zj, zk, zl, zm, zn, zo, dec_t, dec_f, ltI, leI, leN, le63, le40, le0, wrap64_id, wrapu64_id, wrap8_id]
  refine tr_nil (hK _ _ _ ?_)
  clear hK K hbase hfr base
  refine awp_region_k (fun _ => false) (by rw [hB]; rfl) fun K hK base hbase hfr => ?_
  refine tr_run ?_
  simp (disch := omega) only [go_sem, ↓reduceIte, za, zb, zc, zd, ze, zf, zg, zh, zi, zj, zk, zl, zm, zn, zo, dec_t, dec_f, ltI, leI, leN, le63, le40, le0, wrap64_id, wrapu64_id, wrap8_id]
  refine tr_wc (by rfl) (by simp only [go_sem, ↓reduceIte, za, zb, zc, zd, ze, zf, zg, zh, zi, zj, zk, zl, zm, zn, zo] <;> rfl) (c45 σ oid r _ (by decide) (by unfold I63; decide) hσ) ?_
  simp (disch := omega) only [go_sem, ↓reduceIte, za, zb, zc, zd, ze, zf, zg, zh, zi, zj, zk, zl, zm, zn, zo, dec_t, dec_f, ltI, leI, leN, le63, le40, le0, wrap64_id, wrapu64_id, wrap8_id]
  refine tr_nil (hK _ _ _ ?_)
  clear hK K hbase hfr base
  refine awp_region_k (fun _ => false) (by rw [hB]; rfl) fun K hK base hbase hfr => ?_
  refine tr_run ?_
  simp (disch := omega) only [go_sem, ↓reduceIte, za, zb, zc, zd, ze, zf, zg, zh, zi, zj, zk, zl, zm, zn, zo, dec_t, dec_f, ltI, leI, leN, le63, le40, le0, wrap64_id, wrapu64_id, wrap8_id]
  refine tr_nil (hK _ _ _ ?_)
  clear hK K hbase hfr base
  refine awp_seq ?_
  refine awp_region_k (fun _ => false) (by rw [hB]; rfl) fun K hK base hbase hfr => ?_
  refine tr_run ?_
  simp (disch := omega) only [go_sem, ↓reduceIte, za, zb, zc, zd, ze, zf, zg, zh, zi, zj, zk, zl, zm, zn, zo, dec_t, dec_f, ltI, leI, leN, le63, le40, le0, wrap64_id, wrapu64_id, wrap8_id]
  refine tr_nil (hK _ _ _ ?_)
  clear hK K hbase hfr base
  refine awp_block ?_
  refine awp_tok 4 rfl fun t0 ht0 => ?_
  refine awp_loop_w (α := Nat × List Hold × Nat × Rd) (fun x => rlGo rHold ((rInt 1000 r).1.toNat - x.1) x.2.1 x.2.2.2 = rdL0 rHold 1000 r ∧ x.2.1.length ≤ x.1 ∧ x.1 ≤ (rInt 1000 r).1.toNat ∧ B.g.nt ≤ x.2.2.1) (fun x => [(0, .ptr oid 0), (3, .int .i64 (rInt 1000 r).1), (4, .list (x.2.1.map holdV) (.tok x.2.2.1)), (5, .int .i64 x.1)]) (fun x => []) (fun x => ({ σ with live := x.2.2.1 :: σ.live } : Sh).setOb oid (.cells (rdV x.2.2.2))) (fun x => (rInt 1000 r).1.toNat - x.1) (0, [], t0, (rInt 1000 r).2) ?_ ?_ (Boxes.subW_nil _) (Sh.sub_refl _) ?_
  · exact ⟨rfl, Nat.le_refl _, Nat.zero_le _, ht0⟩
  · exact Env.subW_one rfl <| Env.subW_one rfl <| Env.subW_one rfl <| Env.subW_one rfl <| Env.subW_nil _
  rintro ⟨i, out, t, rr⟩ ⟨hG, ho1, ho2, ht⟩
  try dsimp only at hG ho1 ho2 ht
  refine awp_seq ?_
  refine awp_region_k (fun _ => false) (by rw [hB]; rfl) fun K hK base hbase hfr => ?_
  rcases q1 : decide ((i : Int) < (rInt 1000 r).1) with _ | _
  · skip
    refine tr_run ?_
    simp (disch := omega) only [go_sem, ↓reduceIte, za, zb, zc, zd, ze, zf, zg, zh, zi, zj, zk, zl, zm, zn, zo, q1, dec_t, dec_f, ltI, leI, leN, le63, le40, le0, wrap64_id, wrapu64_id, wrap8_id]
    refine tr_nil (hK _ _ _ ?_)
    clear hK K hbase hfr base
    try simp only [yb, yc, yd, ye, yf, yg, yh, yi, yj, yk, yl, ym, yn, yo] at q1
    refine awp_cond (rfl) (fun h2 => by cases h2) (fun h2 => ?_)
    refine awp_exit ?_
    refine then_x ?_
    refine then_x ?_
    refine block_x ?_
    refine then_n ?_
    have hres : rdL0 rHold 1000 r = (out, rr) := by rw [← hG, show (rInt 1000 r).1.toNat - i = 0 by omega]; rfl
    refine awp_seq ?_
    refine awp_region_k (fun _ => false) (by rw [hB]; rfl) fun K hK base hbase hfr => ?_
    rcases q3 : rr.torn with _ | _
    · skip
      refine tr_run ?_
      simp (disch := omega) only [go_sem, ↓reduceIte, za, zb, zc, zd, ze, zf, zg, zh, zi, zj, zk, zl, zm, zn, zo, q3, dec_t, dec_f, ltI, leI, leN, le63, le40, le0, wrap64_id, wrapu64_id, wrap8_id]
      refine tr_pc (by simp only [go_sem, ↓reduceIte, za, zb, zc, zd, ze, zf, zg, zh, zi, zj, zk, zl, zm, zn, zo, q3]) (by simp only [go_sem, ↓reduceIte, za, zb, zc, zd, ze, zf, zg, zh, zi, zj, zk, zl, zm, zn, zo, q3] <;> rfl) (c116 out (.tok t)) ?_
      simp (disch := omega) only [go_sem, ↓reduceIte, za, zb, zc, zd, ze, zf, zg, zh, zi, zj, zk, zl, zm, zn, zo, q3, dec_t, dec_f, ltI, leI, leN, le63, le40, le0, wrap64_id, wrapu64_id, wrap8_id]
      refine tr_nil (hK _ _ _ ?_)
      clear hK K hbase hfr base
      try simp only [yb, yc, yd, ye, yf, yg, yh, yi, yj, yk, yl, ym, yn, yo] at q3
      refine awp_cond (rfl) (fun h4 => ?_) (fun h4 => ?_)
      · try simp only [yb, yc, yd, ye, yf, yg, yh, yi, yj, yk, yl, ym, yn, yo] at h4
        refine awp_region_k (fun _ => false) (by rw [hB]; rfl) fun K hK base hbase hfr => ?_
        refine tr_run ?_
        simp (disch := omega) only [go_sem, ↓reduceIte, za, zb, zc, zd, ze, zf, zg, zh, zi, zj, zk, zl, zm, zn, zo, dec_t, dec_f, ltI, leI, leN, le63, le40, le0, wrap64_id, wrapu64_id, wrap8_id]
        refine tr_nil (hK _ _ _ ?_)
        clear hK K hbase hfr base
        refine awp_region_k (fun _ => false) (by rw [hB]; rfl) fun K hK base hbase hfr => ?_
        refine tr_run ?_
        simp (disch := omega) only [go_sem, ↓reduceIte, za, zb, zc, zd, ze, zf, zg, zh, zi, zj, zk, zl, zm, zn, zo, dec_t, dec_f, ltI, leI, leN, le63, le40, le0, wrap64_id, wrapu64_id, wrap8_id]
        refine tr_nil (hK _ _ _ ?_)
        clear hK K hbase hfr base
        refine awp_ret ?_
        refine then_r ?_
        have e : hCheck out = false := by cases hh : hCheck out <;> simp_all
        rw [rdL_bad (.inr (by rw [hres]; exact e)), hres]
        exact ⟨_, rfl, (.one (.one (.no _ _))), fun _ _ h => h, fun _ h => List.mem_cons_of_mem _ h⟩
      · try simp only [yb, yc, yd, ye, yf, yg, yh, yi, yj, yk, yl, ym, yn, yo] at h4
        refine awp_skip ?_
        refine then_n ?_
        refine awp_region_k (fun _ => false) (by rw [hB]; rfl) fun K hK base hbase hfr => ?_
        refine tr_run ?_
        simp (disch := omega) only [go_sem, ↓reduceIte, za, zb, zc, zd, ze, zf, zg, zh, zi, zj, zk, zl, zm, zn, zo, dec_t, dec_f, ltI, leI, leN, le63, le40, le0, wrap64_id, wrapu64_id, wrap8_id]
        refine tr_nil (hK _ _ _ ?_)
        clear hK K hbase hfr base
        refine awp_ret ?_
        have e : hCheck out = true := by cases hh : hCheck out <;> simp_all
        have e2 : rr.torn = false := by assumption
        rw [rdL_ok (by rw [hres]; exact e2) (by rw [hres]; exact e), hres, show rdV (out, rr).2 = [.str rr.s, .bool false] by rw [← e2]; rfl]
        exact ⟨_, rfl, (.one (.one (.no _ _))), fun _ _ h => h, fun _ h => List.mem_cons_of_mem _ h⟩
    · skip
      refine tr_run ?_
      simp (disch := omega) only [go_sem, ↓reduceIte, za, zb, zc, zd, ze, zf, zg, zh, zi, zj, zk, zl, zm, zn, zo, q3, dec_t, dec_f, ltI, leI, leN, le63, le40, le0, wrap64_id, wrapu64_id, wrap8_id]
      refine tr_nil (hK _ _ _ ?_)
      clear hK K hbase hfr base
      try simp only [yb, yc, yd, ye, yf, yg, yh, yi, yj, yk, yl, ym, yn, yo] at q3
      refine awp_cond (rfl) (fun h5 => ?_) (fun h5 => by cases h5)
      refine awp_region_k (fun _ => false) (by rw [hB]; rfl) fun K hK base hbase hfr => ?_
      refine tr_run ?_
      simp (disch := omega) only [go_sem, ↓reduceIte, za, zb, zc, zd, ze, zf, zg, zh, zi, zj, zk, zl, zm, zn, zo, dec_t, dec_f, ltI, leI, leN, le63, le40, le0, wrap64_id, wrapu64_id, wrap8_id]
      refine tr_nil (hK _ _ _ ?_)
      clear hK K hbase hfr base
      refine awp_region_k (fun _ => false) (by rw [hB]; rfl) fun K hK base hbase hfr => ?_
      refine tr_run ?_
      simp (disch := omega) only [go_sem, ↓reduceIte, za, zb, zc, zd, ze, zf, zg, zh, zi, zj, zk, zl, zm, zn, zo, dec_t, dec_f, ltI, leI, leN, le63, le40, le0, wrap64_id, wrapu64_id, wrap8_id]
      refine tr_nil (hK _ _ _ ?_)
      clear hK K hbase hfr base
      refine awp_ret ?_
      refine then_r ?_
      rw [rdL_bad (.inl (by rw [hres]; assumption)), hres]
      exact ⟨_, rfl, (.one (.one (.no _ _))), fun _ _ h => h, fun _ h => List.mem_cons_of_mem _ h⟩
  · skip
    refine tr_run ?_
    simp (disch := omega) only [go_sem, ↓reduceIte, za, zb, zc, zd, ze, zf, zg, zh, zi, zj, zk, zl, zm, zn, zo, q1, dec_t, dec_f, ltI, leI, leN, le63, le40, le0, wrap64_id, wrapu64_id, wrap8_id]
    refine tr_nil (hK _ _ _ ?_)
    clear hK K hbase hfr base
    try simp only [yb, yc, yd, ye, yf, yg, yh, yi, yj, yk, yl, ym, yn, yo] at q1
    refine awp_cond (rfl) (fun h6 => ?_) (fun h6 => ?_)
    · try simp only [yb, yc, yd, ye, yf, yg, yh, yi, yj, yk, yl, ym, yn, yo] at h6
      have htn : rr.torn = false := by cases hh : rr.torn <;> simp_all
      refine awp_skip ?_
      refine then_n ?_
      refine awp_seq ?_
      refine awp_block ?_
      refine awp_region_k (fun _ => false) (by rw [hB]; rfl) fun K hK base hbase hfr => ?_
      refine tr_run ?_
      simp (disch := omega) only [go_sem, ↓reduceIte, za, zb, zc, zd, ze, zf, zg, zh, zi, zj, zk, zl, zm, zn, zo, dec_t, dec_f, ltI, leI, leN, le63, le40, le0, wrap64_id, wrapu64_id, wrap8_id]
      refine tr_wc (by rfl) (by simp only [go_sem, ↓reduceIte, za, zb, zc, zd, ze, zf, zg, zh, zi, zj, zk, zl, zm, zn, zo] <;> rfl) (c106 _ oid rr (setOb_same _ _ _)) ?_
      simp (disch := omega) only [go_sem, ↓reduceIte, za, zb, zc, zd, ze, zf, zg, zh, zi, zj, zk, zl, zm, zn, zo, dec_t, dec_f, ltI, leI, leN, le63, le40, le0, wrap64_id, wrapu64_id, wrap8_id]
      refine tr_nil (hK _ _ _ ?_)
      clear hK K hbase hfr base
      refine awp_region_k (fun _ => false) (by rw [hB]; rfl) fun K hK base hbase hfr => ?_
      refine tr_run ?_
      simp (disch := omega) only [go_sem, ↓reduceIte, za, zb, zc, zd, ze, zf, zg, zh, zi, zj, zk, zl, zm, zn, zo, dec_t, dec_f, ltI, leI, leN, le63, le40, le0, wrap64_id, wrapu64_id, wrap8_id]
      refine tr_wc (by rfl) (by simp only [go_sem, ↓reduceIte, za, zb, zc, zd, ze, zf, zg, zh, zi, zj, zk, zl, zm, zn, zo] <;> rfl) (c45 _ oid (rHold1 rr) _ (by decide) (by unfold I63; decide) (setOb_same _ _ _)) ?_
      simp (disch := omega) only [go_sem, ↓reduceIte, za, zb, zc, zd, ze, zf, zg, zh, zi, zj, zk, zl, zm, zn, zo, dec_t, dec_f, ltI, leI, leN, le63, le40, le0, wrap64_id, wrapu64_id, wrap8_id]
      refine tr_nil (hK _ _ _ ?_)
      clear hK K hbase hfr base
      refine awp_region_k (fun _ => false) (by rw [hB]; rfl) fun K hK base hbase hfr => ?_
      refine tr_run ?_
      simp (disch := omega) only [go_sem, ↓reduceIte, za, zb, zc, zd, ze, zf, zg, zh, zi, zj, zk, zl, zm, zn, zo, dec_t, dec_f, ltI, leI, leN, le63, le40, le0, wrap64_id, wrapu64_id, wrap8_id]
      refine tr_wc (by rfl) (by simp only [go_sem, ↓reduceIte, za, zb, zc, zd, ze, zf, zg, zh, zi, zj, zk, zl, zm, zn, zo] <;> rfl) (c45 _ oid (rHold2 rr) _ (by decide) (by unfold I63; decide) (setOb_same _ _ _)) ?_
      simp (disch := omega) only [go_sem, ↓reduceIte, za, zb, zc, zd, ze, zf, zg, zh, zi, zj, zk, zl, zm, zn, zo, dec_t, dec_f, ltI, leI, leN, le63, le40, le0, wrap64_id, wrapu64_id, wrap8_id]
      refine tr_nil (hK _ _ _ ?_)
      clear hK K hbase hfr base
      refine awp_region_e (fun _ => false) (by rw [hB]; rfl) fun K hK base hbase hfr => ?_
      refine tr_run ?_
      simp (disch := omega) only [go_sem, ↓reduceIte, za, zb, zc, zd, ze, zf, zg, zh, zi, zj, zk, zl, zm, zn, zo, ho, dec_t, dec_f, ltI, leI, leN, le63, le40, le0, wrap64_id, wrapu64_id, wrap8_id]
      refine tr_nil (hK _ _ _ ?_)
      clear hK K hfr
      refine block_n ?_
      refine then_n ?_
      refine awp_region_e (fun _ => false) (by rw [hB]; rfl) fun K hK base hbase hfr => ?_
      refine tr_run ?_
      simp (disch := omega) only [go_sem, ↓reduceIte, za, zb, zc, zd, ze, zf, zg, zh, zi, zj, zk, zl, zm, zn, zo, dec_t, dec_f, ltI, leI, leN, le63, le40, le0, wrap64_id, wrapu64_id, wrap8_id]
      refine tr_nil (hK _ _ _ ?_)
      clear hK K hbase hfr base
      refine then_n ⟨(i + 1, out ++ [(rHold rr).1], base + 3, (rHold rr).2), ?_, ?_, ?_, ?_, ⟨fun _ _ h => h, fun _ h => h⟩⟩
      · refine ⟨?_, ?_, ?_, Nat.le_trans hbase (Nat.le_add_right _ _)⟩
        · show rlGo rHold ((rInt 1000 r).1.toNat - (i + 1)) (out ++ [(rHold rr).1]) (rHold rr).2 = _
          rw [← hG, show (rInt 1000 r).1.toNat - i = ((rInt 1000 r).1.toNat - (i + 1)) + 1 by omega, rlGo, if_neg (by rw [htn]; decide)]
        · show (out ++ [(rHold rr).1]).length ≤ i + 1; simp only [List.length_append, List.length_cons, List.length_nil]; omega
        · show i + 1 ≤ _; omega
      · show (rInt 1000 r).1.toNat - (i + 1) < (rInt 1000 r).1.toNat - i; omega
      · exact Env.subW_one rfl <| Env.subW_one rfl <| Env.subW_one (by rw [map_snoc]; rfl) <| Env.subW_one rfl <| Env.subW_nil _
      · exact Boxes.subW_nil _
    · try simp only [yb, yc, yd, ye, yf, yg, yh, yi, yj, yk, yl, ym, yn, yo] at h6
      have htn : rr.torn = true := by cases hh : rr.torn <;> simp_all
      refine awp_exit ?_
      refine then_x ?_
      refine then_x ?_
      refine block_x ?_
      refine then_n ?_
      have hres : rdL0 rHold 1000 r = (out, rr) := by rw [← hG, rlGo_torn _ _ _ htn]
      refine awp_seq ?_
      refine awp_region_k (fun _ => false) (by rw [hB]; rfl) fun K hK base hbase hfr => ?_
      rcases q7 : rr.torn with _ | _
      · skip
        refine tr_run ?_
        simp (disch := omega) only [go_sem, ↓reduceIte, za, zb, zc, zd, ze, zf, zg, zh, zi, zj, zk, zl, zm, zn, zo, q7, dec_t, dec_f, ltI, leI, leN, le63, le40, le0, wrap64_id, wrapu64_id, wrap8_id]
        refine tr_pc (by simp only [go_sem, ↓reduceIte, za, zb, zc, zd, ze, zf, zg, zh, zi, zj, zk, zl, zm, zn, zo, q7]) (by simp only [go_sem, ↓reduceIte, za, zb, zc, zd, ze, zf, zg, zh, zi, zj, zk, zl, zm, zn, zo, q7] <;> rfl) (c116 out (.tok t)) ?_
        simp (disch := omega) only [go_sem, ↓reduceIte, za, zb, zc, zd, ze, zf, zg, zh, zi, zj, zk, zl, zm, zn, zo, q7, dec_t, dec_f, ltI, leI, leN, le63, le40, le0, wrap64_id, wrapu64_id, wrap8_id]
        refine tr_nil (hK _ _ _ ?_)
        clear hK K hbase hfr base
        try simp only [yb, yc, yd, ye, yf, yg, yh, yi, yj, yk, yl, ym, yn, yo] at q7
        refine awp_cond (rfl) (fun h8 => ?_) (fun h8 => ?_)
        · try simp only [yb, yc, yd, ye, yf, yg, yh, yi, yj, yk, yl, ym, yn, yo] at h8
          refine awp_region_k (fun _ => false) (by rw [hB]; rfl) fun K hK base hbase hfr => ?_
          refine tr_run ?_
          simp (disch := omega) only [go_sem, ↓reduceIte, za, zb, zc, zd, ze, zf, zg, zh, zi, zj, zk, zl, zm, zn, zo, dec_t, dec_f, ltI, leI, leN, le63, le40, le0, wrap64_id, wrapu64_id, wrap8_id]
          refine tr_nil (hK _ _ _ ?_)
          clear hK K hbase hfr base
          refine awp_region_k (fun _ => false) (by rw [hB]; rfl) fun K hK base hbase hfr => ?_
          refine tr_run ?_
          simp (disch := omega) only [go_sem, ↓reduceIte, za, zb, zc, zd, ze, zf, zg, zh, zi, zj, zk, zl, zm, zn, zo, dec_t, dec_f, ltI, leI, leN, le63, le40, le0, wrap64_id, wrapu64_id, wrap8_id]
          refine tr_nil (hK _ _ _ ?_)
          clear hK K hbase hfr base
          refine awp_ret ?_
          refine then_r ?_
          have e : hCheck out = false := by cases hh : hCheck out <;> simp_all
          rw [rdL_bad (.inr (by rw [hres]; exact e)), hres]
          exact ⟨_, rfl, (.one (.one (.no _ _))), fun _ _ h => h, fun _ h => List.mem_cons_of_mem _ h⟩
        · try simp only [yb, yc, yd, ye, yf, yg, yh, yi, yj, yk, yl, ym, yn, yo] at h8
          refine awp_skip ?_
          refine then_n ?_
          refine awp_region_k (fun _ => false) (by rw [hB]; rfl) fun K hK base hbase hfr => ?_
          refine tr_run ?_
          simp (disch := omega) only [go_sem, ↓reduceIte, za, zb, zc, zd, ze, zf, zg, zh, zi, zj, zk, zl, zm, zn, zo, dec_t, dec_f, ltI, leI, leN, le63, le40, le0, wrap64_id, wrapu64_id, wrap8_id]
          refine tr_nil (hK _ _ _ ?_)
          clear hK K hbase hfr base
          refine awp_ret ?_
          have e : hCheck out = true := by cases hh : hCheck out <;> simp_all
          have e2 : rr.torn = false := by assumption
          rw [rdL_ok (by rw [hres]; exact e2) (by rw [hres]; exact e), hres, show rdV (out, rr).2 = [.str rr.s, .bool false] by rw [← e2]; rfl]
          exact ⟨_, rfl, (.one (.one (.no _ _))), fun _ _ h => h, fun _ h => List.mem_cons_of_mem _ h⟩
      · skip
        refine tr_run ?_
        simp (disch := omega) only [go_sem, ↓reduceIte, za, zb, zc, zd, ze, zf, zg, zh, zi, zj, zk, zl, zm, zn, zo, q7, dec_t, dec_f, ltI, leI, leN, le63, le40, le0, wrap64_id, wrapu64_id, wrap8_id]
        refine tr_nil (hK _ _ _ ?_)
        clear hK K hbase hfr base
        try simp only [yb, yc, yd, ye, yf, yg, yh, yi, yj, yk, yl, ym, yn, yo] at q7
        refine awp_cond (rfl) (fun h9 => ?_) (fun h9 => by cases h9)
        refine awp_region_k (fun _ => false) (by rw [hB]; rfl) fun K hK base hbase hfr => ?_
        refine tr_run ?_
        simp (disch := omega) only [go_sem, ↓reduceIte, za, zb, zc, zd, ze, zf, zg, zh, zi, zj, zk, zl, zm, zn, zo, dec_t, dec_f, ltI, leI, leN, le63, le40, le0, wrap64_id, wrapu64_id, wrap8_id]
        refine tr_nil (hK _ _ _ ?_)
        clear hK K hbase hfr base
        refine awp_region_k (fun _ => false) (by rw [hB]; rfl) fun K hK base hbase hfr => ?_
        refine tr_run ?_
        simp (disch := omega) only [go_sem, ↓reduceIte, za, zb, zc, zd, ze, zf, zg, zh, zi, zj, zk, zl, zm, zn, zo, dec_t, dec_f, ltI, leI, leN, le63, le40, le0, wrap64_id, wrapu64_id, wrap8_id]
        refine tr_nil (hK _ _ _ ?_)
        clear hK K hbase hfr base
        refine awp_ret ?_
        refine then_r ?_
        rw [rdL_bad (.inl (by rw [hres]; assumption)), hres]
        exact ⟨_, rfl, (.one (.one (.no _ _))), fun _ _ h => h, fun _ h => List.mem_cons_of_mem _ h⟩
end Go.Am
namespace Go.Am
open Go
open Nat renaming reduceEqDiff → za, reduceAdd → zb, reduceMul → zc, reducePow → zd, reduceLeDiff → ze, reduceSub → zf, reduceBEq → zg, reduceBNe → zh, reduceDiv → zi, reduceMod → zj
open Int renaming reduceLT → zk, reduceLE → zl, reduceEq → zm, reduceNe → zn, reduceToNat → zo

def nIns (s : List UInt8) (put : Bool) (t : Tg) : Bool := !put && !(Op.bytesLess t.s s)
def wGo (s : List UInt8) (n : Int) : Bool → List Tg → List Tg
  | put, [] => if put = true then [] else [⟨s, n⟩]
  | put, t :: l => (if nIns s put t = true then [⟨s, n⟩] else []) ++ ((if t.s = s then [] else [t]) ++ wGo s n (put || nIns s put t) l)
def nWith (l : List Tg) (s : List UInt8) (n : Int) : List Tg := wGo s n false l
theorem wGo_len (s : List UInt8) (n : Int) : ∀ (put : Bool) (l : List Tg), (wGo s n put l).length + (if put = true then 1 else 0) ≤ l.length + 1
  | true, [] => by simp [wGo]
  | false, [] => by simp [wGo]
  | true, t :: l => by
    have h := wGo_len s n true l
    rw [wGo, show nIns s true t = false by simp [nIns], if_neg (by decide)]
    simp only [Bool.or_false, List.nil_append, List.length_append, List.length_cons] at h ⊢
    have : (if t.s = s then ([] : List Tg) else [t]).length ≤ 1 := by split <;> simp
    omega
  | false, t :: l => by
    rw [wGo]
    have : (if t.s = s then ([] : List Tg) else [t]).length ≤ 1 := by split <;> simp
    cases hh : nIns s false t
    · have h := wGo_len s n false l
      simp only [Bool.false_or, Bool.false_eq_true, if_false, List.nil_append, List.length_append, List.length_cons] at h ⊢
      omega
    · have h := wGo_len s n true l
      simp only [Bool.false_or, Bool.false_eq_true, if_false, if_true, List.length_append, List.length_cons, List.length_nil] at h ⊢
      omega
theorem nWith_len (l : List Tg) (s : List UInt8) (n : Int) : (nWith l s n).length ≤ l.length + 1 := by have := wGo_len s n false l; simpa [nWith] using this
theorem c112 (l : List Tg) (tg : Tag) (s : List UInt8) (n : Int) (hl : l.length ≤ 1000000) : PCalls Go.Proofs.Tryz.prog 112 [.list (l.map tgV) tg, .str s, .int .i64 n] (.list ((nWith l s n).map tgV) .no) := by
  refine pcalls_of_awp Go.Proofs.Tryz.func112 rfl (by decide) (Nat.le_of_ble_eq_true rfl) ?_
  intro B σ hB ho hob
  refine awp_region_k (fun _ => false) (by rw [hB]; rfl) fun K hK base hbase hfr => ?_
  refine tr_run ?_
  simp (disch := omega) only [go_sem, ↓reduceIte, za, zb, zc, zd, ze, zf, zg, zh, zi, zj, zk, zl, zm, zn, zo, dec_t, dec_f, ltI, leI, leN, le63, le40, le0, wrap64_id, wrapu64_id, wrap8_id]
  refine tr_nil (hK _ _ _ ?_)
  clear hK K hbase hfr base
  refine awp_region_k (fun _ => false) (by rw [hB]; rfl) fun K hK base hbase hfr => ?_
  refine tr_run ?_
  simp (disch := omega) only [go_sem, ↓reduceIte, za, zb, zc, zd, ze, zf, zg, zh, zi, zj, zk, zl, zm, zn, zo, dec_t, dec_f, ltI, leI, leN, le63, le40, le0, wrap64_id, wrapu64_id, wrap8_id]
  refine tr_nil (hK _ _ _ ?_)
  clear hK K hbase hfr base
  refine awp_region_k (fun _ => false) (by rw [hB]; rfl) fun K hK base hbase hfr => ?_
  refine tr_run ?_
  simp (disch := omega) only [go_sem, ↓reduceIte, za, zb, zc, zd, ze, zf, zg, zh, zi, zj, zk, zl, zm, zn, zo, dec_t, dec_f, ltI, leI, leN, le63, le40, le0, wrap64_id, wrapu64_id, wrap8_id]
  refine tr_nil (hK _ _ _ ?_)
  clear hK K hbase hfr base
  refine awp_seq ?_
  refine awp_region_k (fun _ => false) (by rw [hB]; rfl) fun K hK base hbase hfr => ?_
  refine tr_run ?_
  simp (disch := omega) only [go_sem, ↓reduceIte, za, zb, zc, zd, ze, zf, zg, zh, zi, zj, zk, zl, zm, zn, zo, dec_t, dec_f, ltI, leI, leN, le63, le40, le0, wrap64_id, wrapu64_id, wrap8_id]
  refine tr_nil (hK _ _ _ ?_)
  clear hK K hbase hfr base
  refine awp_block ?_
  refine awp_tok 7 rfl fun t0 ht0 => ?_
  refine awp_loop_w (α := Nat × Bool × List Tg × Nat) (fun x => x.2.2.1 ++ wGo s n x.2.1 (l.drop x.1) = nWith l s n ∧ x.2.2.1.length ≤ 2 * x.1 ∧ B.g.nt ≤ x.2.2.2) (fun x => [(0, .list (l.map tgV) tg), (1, .str s), (2, .int .i64 n), (7, .list (x.2.2.1.map tgV) (.tok x.2.2.2)), (8, .bool x.2.1), (9, .int .i64 x.1)]) (fun x => []) (fun x => { σ with live := x.2.2.2 :: σ.live }) (fun x => l.length - x.1) (0, false, [], t0) ?_ ?_ (Boxes.subW_nil _) (Sh.sub_refl _) ?_
  · exact ⟨rfl, Nat.le_refl _, ht0⟩
  · exact Env.subW_one rfl <| Env.subW_one rfl <| Env.subW_one rfl <| Env.subW_one rfl <| Env.subW_one rfl <| Env.subW_one rfl <| Env.subW_nil _
  rintro ⟨i, put, out, t⟩ ⟨h0, ho1, ht⟩
  try dsimp only at h0 ho1 ht
  refine awp_seq ?_
  refine awp_region_k (fun _ => false) (by rw [hB]; rfl) fun K hK base hbase hfr => ?_
  refine tr_run ?_
  simp (disch := omega) only [go_sem, ↓reduceIte, za, zb, zc, zd, ze, zf, zg, zh, zi, zj, zk, zl, zm, zn, zo, dec_t, dec_f, ltI, leI, leN, le63, le40, le0, wrap64_id, wrapu64_id, wrap8_id]
  refine tr_nil (hK _ _ _ ?_)
  clear hK K hbase hfr base
  refine awp_cond (rfl) (fun h1 => ?_) (fun h1 => ?_)
  · try simp only [yb, yc, yd, ye, yf, yg, yh, yi, yj, yk, yl, ym, yn, yo] at h1
    obtain ⟨x, hx, hm, hi⟩ := get_of_lt h1
    refine awp_skip ?_
    refine then_n ?_
    refine awp_seq ?_
    refine awp_block ?_
    refine awp_seq ?_
    refine awp_region_k (fun _ => false) (by rw [hB]; rfl) fun K hK base hbase hfr => ?_
    rcases q2 : put with _ | _
    · skip
      refine tr_run ?_
      simp (disch := omega) only [go_sem, ↓reduceIte, za, zb, zc, zd, ze, zf, zg, zh, zi, zj, zk, zl, zm, zn, zo, hx, q2, dec_t, dec_f, ltI, leI, leN, le63, le40, le0, wrap64_id, wrapu64_id, wrap8_id]
      refine tr_nil (hK _ _ _ ?_)
      clear hK K hbase hfr base
      try simp only [yb, yc, yd, ye, yf, yg, yh, yi, yj, yk, yl, ym, yn, yo] at q2
      refine awp_cond (rfl) (fun h3 => ?_) (fun h3 => ?_)
      · try simp only [yb, yc, yd, ye, yf, yg, yh, yi, yj, yk, yl, ym, yn, yo] at h3
        refine awp_region_k (fun _ => false) (by rw [hB]; rfl) fun K hK base hbase hfr => ?_
        refine tr_run ?_
        simp (disch := omega) only [go_sem, ↓reduceIte, za, zb, zc, zd, ze, zf, zg, zh, zi, zj, zk, zl, zm, zn, zo, ho, dec_t, dec_f, ltI, leI, leN, le63, le40, le0, wrap64_id, wrapu64_id, wrap8_id]
        refine tr_nil (hK _ _ _ ?_)
        clear hK K hfr
        refine awp_region_e (fun _ => false) (by rw [hB]; rfl) fun K hK base hbase hfr => ?_
        refine tr_run ?_
        simp (disch := omega) only [go_sem, ↓reduceIte, za, zb, zc, zd, ze, zf, zg, zh, zi, zj, zk, zl, zm, zn, zo, dec_t, dec_f, ltI, leI, leN, le63, le40, le0, wrap64_id, wrapu64_id, wrap8_id]
        refine tr_nil (hK _ _ _ ?_)
        clear hK K hbase hfr base
        refine then_n ?_
        refine awp_region_k (fun _ => false) (by rw [hB]; rfl) fun K hK base hbase hfr => ?_
        refine tr_run ?_
        simp (disch := omega) only [go_sem, ↓reduceIte, za, zb, zc, zd, ze, zf, zg, zh, zi, zj, zk, zl, zm, zn, zo, hx, dec_t, dec_f, ltI, leI, leN, le63, le40, le0, wrap64_id, wrapu64_id, wrap8_id]
        refine tr_nil (hK _ _ _ ?_)
        clear hK K hbase hfr base
        refine awp_cond (rfl) (fun h4 => ?_) (fun h4 => ?_)
        · try simp only [yb, yc, yd, ye, yf, yg, yh, yi, yj, yk, yl, ym, yn, yo] at h4
          refine awp_region_e (fun _ => false) (by rw [hB]; rfl) fun K hK base hbase hfr => ?_
          refine tr_run ?_
          simp (disch := omega) only [go_sem, ↓reduceIte, za, zb, zc, zd, ze, zf, zg, zh, zi, zj, zk, zl, zm, zn, zo, hx, ho, dec_t, dec_f, ltI, leI, leN, le63, le40, le0, wrap64_id, wrapu64_id, wrap8_id]
          refine tr_nil (hK _ _ _ ?_)
          clear hK K hfr
          refine block_n ?_
          refine then_n ?_
          refine awp_region_e (fun _ => false) (by rw [hB]; rfl) fun K hK base hbase hfr => ?_
          refine tr_run ?_
          simp (disch := omega) only [go_sem, ↓reduceIte, za, zb, zc, zd, ze, zf, zg, zh, zi, zj, zk, zl, zm, zn, zo, dec_t, dec_f, ltI, leI, leN, le63, le40, le0, wrap64_id, wrapu64_id, wrap8_id]
          refine tr_nil (hK _ _ _ ?_)
          clear hK K hbase hfr base
          refine then_n ⟨(i + 1, true, out ++ [⟨s, n⟩] ++ [x], base + 6), ?_, ?_, ?_, ?_, Sh.sub_refl _⟩
          · refine ⟨?_, ?_, ?_⟩
            · have hp : put = false := by simp_all
              subst hp
              show out ++ [⟨s, n⟩] ++ [x] ++ wGo s n true (l.drop (i + 1)) = nWith l s n
              rw [← h0, drop_cons_of hx, wGo, show nIns s false x = true by unfold nIns; simp_all, if_pos rfl, if_neg (by assumption)]
              simp
            · simp only [List.length_append, List.length_cons, List.length_nil]; omega
            · dsimp only; omega
          · show l.length - (i + 1) < l.length - i; omega
          · exact Env.subW_one rfl <| Env.subW_one rfl <| Env.subW_one rfl <| Env.subW_one (by first | rfl | (simp only [map_snoc]; rfl)) <| Env.subW_one rfl <| Env.subW_one rfl <| Env.subW_nil _
          · exact Boxes.subW_nil _
        · try simp only [yb, yc, yd, ye, yf, yg, yh, yi, yj, yk, yl, ym, yn, yo] at h4
          refine awp_skip ?_
          refine block_n ?_
          refine then_n ?_
          refine awp_region_e (fun _ => false) (by rw [hB]; rfl) fun K hK base hbase hfr => ?_
          refine tr_run ?_
          simp (disch := omega) only [go_sem, ↓reduceIte, za, zb, zc, zd, ze, zf, zg, zh, zi, zj, zk, zl, zm, zn, zo, dec_t, dec_f, ltI, leI, leN, le63, le40, le0, wrap64_id, wrapu64_id, wrap8_id]
          refine tr_nil (hK _ _ _ ?_)
          clear hK K hbase hfr base
          refine then_n ⟨(i + 1, true, out ++ [⟨s, n⟩], base + 5), ?_, ?_, ?_, ?_, Sh.sub_refl _⟩
          · refine ⟨?_, ?_, ?_⟩
            · have hp : put = false := by simp_all
              subst hp
              show out ++ [⟨s, n⟩] ++ wGo s n true (l.drop (i + 1)) = nWith l s n
              rw [← h0, drop_cons_of hx, wGo, show nIns s false x = true by unfold nIns; simp_all, if_pos rfl, if_pos (by assumption)]
              simp
            · simp only [List.length_append, List.length_cons, List.length_nil]; omega
            · dsimp only; omega
          · show l.length - (i + 1) < l.length - i; omega
          · exact Env.subW_one rfl <| Env.subW_one rfl <| Env.subW_one rfl <| Env.subW_one (by first | rfl | (simp only [map_snoc]; rfl)) <| Env.subW_one rfl <| Env.subW_one rfl <| Env.subW_nil _
          · exact Boxes.subW_nil _
      · try simp only [yb, yc, yd, ye, yf, yg, yh, yi, yj, yk, yl, ym, yn, yo] at h3
        refine awp_skip ?_
        refine then_n ?_
        refine awp_region_k (fun _ => false) (by rw [hB]; rfl) fun K hK base hbase hfr => ?_
        refine tr_run ?_
        simp (disch := omega) only [go_sem, ↓reduceIte, za, zb, zc, zd, ze, zf, zg, zh, zi, zj, zk, zl, zm, zn, zo, hx, dec_t, dec_f, ltI, leI, leN, le63, le40, le0, wrap64_id, wrapu64_id, wrap8_id]
        refine tr_nil (hK _ _ _ ?_)
        clear hK K hbase hfr base
        refine awp_cond (rfl) (fun h5 => ?_) (fun h5 => ?_)
        · try simp only [yb, yc, yd, ye, yf, yg, yh, yi, yj, yk, yl, ym, yn, yo] at h5
          refine awp_region_e (fun _ => false) (by rw [hB]; rfl) fun K hK base hbase hfr => ?_
          refine tr_run ?_
          simp (disch := omega) only [go_sem, ↓reduceIte, za, zb, zc, zd, ze, zf, zg, zh, zi, zj, zk, zl, zm, zn, zo, hx, ho, dec_t, dec_f, ltI, leI, leN, le63, le40, le0, wrap64_id, wrapu64_id, wrap8_id]
          refine tr_nil (hK _ _ _ ?_)
          clear hK K hfr
          refine block_n ?_
          refine then_n ?_
          refine awp_region_e (fun _ => false) (by rw [hB]; rfl) fun K hK base hbase hfr => ?_
          refine tr_run ?_
          simp (disch := omega) only [go_sem, ↓reduceIte, za, zb, zc, zd, ze, zf, zg, zh, zi, zj, zk, zl, zm, zn, zo, dec_t, dec_f, ltI, leI, leN, le63, le40, le0, wrap64_id, wrapu64_id, wrap8_id]
          refine tr_nil (hK _ _ _ ?_)
          clear hK K hbase hfr base
          refine then_n ⟨(i + 1, false, out ++ [x], base + 6), ?_, ?_, ?_, ?_, Sh.sub_refl _⟩
          · refine ⟨?_, ?_, ?_⟩
            · have hp : put = false := by simp_all
              subst hp
              show out ++ [x] ++ wGo s n false (l.drop (i + 1)) = nWith l s n
              rw [← h0, drop_cons_of hx, wGo, show nIns s false x = false by unfold nIns; simp_all, if_neg (by decide), if_neg (by assumption)]
              simp
            · simp only [List.length_append, List.length_cons, List.length_nil]; omega
            · dsimp only; omega
          · show l.length - (i + 1) < l.length - i; omega
          · exact Env.subW_one rfl <| Env.subW_one rfl <| Env.subW_one rfl <| Env.subW_one (by first | rfl | (simp only [map_snoc]; rfl)) <| Env.subW_one rfl <| Env.subW_one rfl <| Env.subW_nil _
          · exact Boxes.subW_nil _
        · try simp only [yb, yc, yd, ye, yf, yg, yh, yi, yj, yk, yl, ym, yn, yo] at h5
          refine awp_skip ?_
          refine block_n ?_
          refine then_n ?_
          refine awp_region_e (fun _ => false) (by rw [hB]; rfl) fun K hK base hbase hfr => ?_
          refine tr_run ?_
          simp (disch := omega) only [go_sem, ↓reduceIte, za, zb, zc, zd, ze, zf, zg, zh, zi, zj, zk, zl, zm, zn, zo, dec_t, dec_f, ltI, leI, leN, le63, le40, le0, wrap64_id, wrapu64_id, wrap8_id]
          refine tr_nil (hK _ _ _ ?_)
          clear hK K hbase hfr base
          refine then_n ⟨(i + 1, false, out, t), ?_, ?_, ?_, ?_, Sh.sub_refl _⟩
          · refine ⟨?_, ?_, ?_⟩
            · have hp : put = false := by simp_all
              subst hp
              show out ++ wGo s n false (l.drop (i + 1)) = nWith l s n
              rw [← h0, drop_cons_of hx, wGo, show nIns s false x = false by unfold nIns; simp_all, if_neg (by decide), if_pos (by assumption)]
              simp
            · simp only [List.length_append, List.length_cons, List.length_nil]; omega
            · dsimp only; omega
          · show l.length - (i + 1) < l.length - i; omega
          · exact Env.subW_one rfl <| Env.subW_one rfl <| Env.subW_one rfl <| Env.subW_one (by first | rfl | (simp only [map_snoc]; rfl)) <| Env.subW_one rfl <| Env.subW_one rfl <| Env.subW_nil _
          · exact Boxes.subW_nil _
    · skip
      refine tr_run ?_
      simp (disch := omega) only [go_sem, ↓reduceIte, za, zb, zc, zd, ze, zf, zg, zh, zi, zj, zk, zl, zm, zn, zo, hx, q2, dec_t, dec_f, ltI, leI, leN, le63, le40, le0, wrap64_id, wrapu64_id, wrap8_id]
      refine tr_nil (hK _ _ _ ?_)
      clear hK K hbase hfr base
      try simp only [yb, yc, yd, ye, yf, yg, yh, yi, yj, yk, yl, ym, yn, yo] at q2
      refine awp_cond (rfl) (fun h6 => by cases h6) (fun h6 => ?_)
      refine awp_skip ?_
      refine then_n ?_
      refine awp_region_k (fun _ => false) (by rw [hB]; rfl) fun K hK base hbase hfr => ?_
      refine tr_run ?_
      simp (disch := omega) only [go_sem, ↓reduceIte, za, zb, zc, zd, ze, zf, zg, zh, zi, zj, zk, zl, zm, zn, zo, hx, dec_t, dec_f, ltI, leI, leN, le63, le40, le0, wrap64_id, wrapu64_id, wrap8_id]
      refine tr_nil (hK _ _ _ ?_)
      clear hK K hbase hfr base
      refine awp_cond (rfl) (fun h7 => ?_) (fun h7 => ?_)
      · try simp only [yb, yc, yd, ye, yf, yg, yh, yi, yj, yk, yl, ym, yn, yo] at h7
        refine awp_region_e (fun _ => false) (by rw [hB]; rfl) fun K hK base hbase hfr => ?_
        refine tr_run ?_
        simp (disch := omega) only [go_sem, ↓reduceIte, za, zb, zc, zd, ze, zf, zg, zh, zi, zj, zk, zl, zm, zn, zo, hx, ho, dec_t, dec_f, ltI, leI, leN, le63, le40, le0, wrap64_id, wrapu64_id, wrap8_id]
        refine tr_nil (hK _ _ _ ?_)
        clear hK K hfr
        refine block_n ?_
        refine then_n ?_
        refine awp_region_e (fun _ => false) (by rw [hB]; rfl) fun K hK base hbase hfr => ?_
        refine tr_run ?_
        simp (disch := omega) only [go_sem, ↓reduceIte, za, zb, zc, zd, ze, zf, zg, zh, zi, zj, zk, zl, zm, zn, zo, dec_t, dec_f, ltI, leI, leN, le63, le40, le0, wrap64_id, wrapu64_id, wrap8_id]
        refine tr_nil (hK _ _ _ ?_)
        clear hK K hbase hfr base
        refine then_n ⟨(i + 1, true, out ++ [x], base + 6), ?_, ?_, ?_, ?_, Sh.sub_refl _⟩
        · refine ⟨?_, ?_, ?_⟩
          · have hp : put = true := by simp_all
            subst hp
            show out ++ [x] ++ wGo s n true (l.drop (i + 1)) = nWith l s n
            rw [← h0, drop_cons_of hx, wGo, show nIns s true x = false by unfold nIns; simp_all, if_neg (by decide), if_neg (by assumption)]
            simp
          · simp only [List.length_append, List.length_cons, List.length_nil]; omega
          · dsimp only; omega
        · show l.length - (i + 1) < l.length - i; omega
        · exact Env.subW_one rfl <| Env.subW_one rfl <| Env.subW_one rfl <| Env.subW_one (by first | rfl | (simp only [map_snoc]; rfl)) <| Env.subW_one rfl <| Env.subW_one rfl <| Env.subW_nil _
        · exact Boxes.subW_nil _
      · try simp only [yb, yc, yd, ye, yf, yg, yh, yi, yj, yk, yl, ym, yn, yo] at h7
        refine awp_skip ?_
        refine block_n ?_
        refine then_n ?_
        refine awp_region_e (fun _ => false) (by rw [hB]; rfl) fun K hK base hbase hfr => ?_
        refine tr_run ?_
        simp (disch := omega) only [go_sem, ↓reduceIte, za, zb, zc, zd, ze, zf, zg, zh, zi, zj, zk, zl, zm, zn, zo, dec_t, dec_f, ltI, leI, leN, le63, le40, le0, wrap64_id, wrapu64_id, wrap8_id]
        refine tr_nil (hK _ _ _ ?_)
        clear hK K hbase hfr base
        refine then_n ⟨(i + 1, true, out, t), ?_, ?_, ?_, ?_, Sh.sub_refl _⟩
        · refine ⟨?_, ?_, ?_⟩
          · have hp : put = true := by simp_all
            subst hp
            show out ++ wGo s n true (l.drop (i + 1)) = nWith l s n
            rw [← h0, drop_cons_of hx, wGo, show nIns s true x = false by unfold nIns; simp_all, if_neg (by decide), if_pos (by assumption)]
            simp
          · simp only [List.length_append, List.length_cons, List.length_nil]; omega
          · dsimp only; omega
        · show l.length - (i + 1) < l.length - i; omega
        · exact Env.subW_one rfl <| Env.subW_one rfl <| Env.subW_one rfl <| Env.subW_one (by first | rfl | (simp only [map_snoc]; rfl)) <| Env.subW_one rfl <| Env.subW_one rfl <| Env.subW_nil _
        · exact Boxes.subW_nil _
  · try simp only [yb, yc, yd, ye, yf, yg, yh, yi, yj, yk, yl, ym, yn, yo] at h1
    refine awp_exit ?_
    refine then_x ?_
    refine then_x ?_
    refine block_x ?_
    refine then_n ?_
    have hle : l.length ≤ i := by omega
    have hfin : out ++ wGo s n put [] = nWith l s n := by rw [← h0, List.drop_eq_nil_of_le hle]
    have hlo : out.length ≤ 3000000 := by have := nWith_len l s n; rw [← hfin, List.length_append] at this; omega
    refine awp_seq ?_
    refine awp_region_k (fun _ => false) (by rw [hB]; rfl) fun K hK base hbase hfr => ?_
    refine tr_run ?_
    simp (disch := omega) only [go_sem, ↓reduceIte, za, zb, zc, zd, ze, zf, zg, zh, zi, zj, zk, zl, zm, zn, zo, dec_t, dec_f, ltI, leI, leN, le63, le40, le0, wrap64_id, wrapu64_id, wrap8_id]
    refine tr_nil (hK _ _ _ ?_)
    clear hK K hbase hfr base
    refine awp_cond (rfl) (fun h8 => ?_) (fun h8 => ?_)
    · try simp only [yb, yc, yd, ye, yf, yg, yh, yi, yj, yk, yl, ym, yn, yo] at h8
      refine awp_region_e (fun _ => false) (by rw [hB]; rfl) fun K hK base hbase hfr => ?_
      refine tr_run ?_
      simp (disch := omega) only [go_sem, ↓reduceIte, za, zb, zc, zd, ze, zf, zg, zh, zi, zj, zk, zl, zm, zn, zo, ho, dec_t, dec_f, ltI, leI, leN, le63, le40, le0, wrap64_id, wrapu64_id, wrap8_id]
      refine tr_nil (hK _ _ _ ?_)
      clear hK K hfr
      refine then_n ?_
      refine awp_region_k (fun _ => false) (by rw [hB]; rfl) fun K hK base hbase hfr => ?_
      refine tr_run ?_
      simp (disch := omega) only [go_sem, ↓reduceIte, za, zb, zc, zd, ze, zf, zg, zh, zi, zj, zk, zl, zm, zn, zo, dec_t, dec_f, ltI, leI, leN, le63, le40, le0, wrap64_id, wrapu64_id, wrap8_id]
      refine tr_nil (hK _ _ _ ?_)
      clear hK K hbase hfr base
      refine awp_ret ?_
      refine ⟨_, rfl, ?_, fun _ _ h => h, fun _ h => List.mem_cons_of_mem _ h⟩
      have e : nWith l s n = out ++ [⟨s, n⟩] := by rw [← hfin, wGo, if_neg (by simp_all)]
      rw [e, map_snoc]; exact .one (.one (.no _ _))
    · try simp only [yb, yc, yd, ye, yf, yg, yh, yi, yj, yk, yl, ym, yn, yo] at h8
      refine awp_skip ?_
      refine then_n ?_
      refine awp_region_k (fun _ => false) (by rw [hB]; rfl) fun K hK base hbase hfr => ?_
      refine tr_run ?_
      simp (disch := omega) only [go_sem, ↓reduceIte, za, zb, zc, zd, ze, zf, zg, zh, zi, zj, zk, zl, zm, zn, zo, dec_t, dec_f, ltI, leI, leN, le63, le40, le0, wrap64_id, wrapu64_id, wrap8_id]
      refine tr_nil (hK _ _ _ ?_)
      clear hK K hbase hfr base
      refine awp_ret ?_
      refine ⟨_, rfl, ?_, fun _ _ h => h, fun _ h => List.mem_cons_of_mem _ h⟩
      have e : nWith l s n = out := by rw [← hfin, wGo, if_pos (by simp_all), List.append_nil]
      rw [e]; exact .one (.one (.no _ _))

def nStep (out : List Tg) (t : Tg) : List Tg := if nNum out t.s < t.n then nWith out t.s t.n else out
def nJoin (a b : List Tg) : List Tg := (b.foldl nStep a).take 100
theorem nStep_len (out : List Tg) (t : Tg) : (nStep out t).length ≤ out.length + 1 := by
  unfold nStep
  split
  · exact nWith_len _ _ _
  · omega
theorem foldl_drop {α β : Type} {f : β → α → β} {l : List α} {i : Nat} {x : α} {b z : β} (hx : l[i]? = some x) (h : (l.drop i).foldl f b = z) : (l.drop (i + 1)).foldl f (f b x) = z := by
  rw [← h, drop_cons_of hx]; rfl
theorem c50 (a b : List Tg) (ta tb : Tag) (ha : a.length ≤ 100000) (hb : b.length ≤ 100000) : PCalls Go.Proofs.Tryz.prog 50 [.list (a.map tgV) ta, .list (b.map tgV) tb] (.list ((nJoin a b).map tgV) .no) := by
  refine pcalls_of_awp Go.Proofs.Tryz.func50 rfl (by decide) (Nat.le_of_ble_eq_true rfl) ?_
  intro B σ hB ho hob
  refine awp_region_k (fun _ => false) (by rw [hB]; rfl) fun K hK base hbase hfr => ?_
  refine tr_run ?_
  simp (disch := omega) only [go_sem, ↓reduceIte, za, zb, zc, zd, ze, zf, zg, zh, zi, zj, zk, zl, zm, zn, zo, dec_t, dec_f, ltI, leI, leN, le63, le40, le0, wrap64_id, wrapu64_id, wrap8_id]
  refine tr_nil (hK _ _ _ ?_)
  clear hK K hbase hfr base
  refine awp_region_k (fun _ => false) (by rw [hB]; rfl) fun K hK base hbase hfr => ?_
  refine tr_run ?_
  simp (disch := omega) only [go_sem, ↓reduceIte, za, zb, zc, zd, ze, zf, zg, zh, zi, zj, zk, zl, zm, zn, zo, dec_t, dec_f, ltI, leI, leN, le63, le40, le0, wrap64_id, wrapu64_id, wrap8_id]
  refine tr_nil (hK _ _ _ ?_)
  clear hK K hbase hfr base
  refine awp_region_k (fun _ => false) (by rw [hB]; rfl) fun K hK base hbase hfr => ?_
  refine tr_run ?_
  simp (disch := omega) only [go_sem, ↓reduceIte, za, zb, zc, zd, ze, zf, zg, zh, zi, zj, zk, zl, zm, zn, zo, ho, dec_t, dec_f, ltI, leI, leN, le63, le40, le0, wrap64_id, wrapu64_id, wrap8_id]
  refine tr_nil (hK _ _ _ ?_)
  clear hK K hfr
  refine awp_seq ?_
  refine awp_region_k (fun _ => false) (by rw [hB]; rfl) fun K hK base hbase hfr => ?_
  refine tr_run ?_
  simp (disch := omega) only [go_sem, ↓reduceIte, za, zb, zc, zd, ze, zf, zg, zh, zi, zj, zk, zl, zm, zn, zo, dec_t, dec_f, ltI, leI, leN, le63, le40, le0, wrap64_id, wrapu64_id, wrap8_id]
  refine tr_nil (hK _ _ _ ?_)
  clear hK K hbase hfr base
  refine awp_block ?_
  refine awp_loop_w (α := Nat × List Tg) (fun x => (b.drop x.1).foldl nStep x.2 = b.foldl nStep a ∧ x.2.length ≤ a.length + x.1 ∧ x.1 ≤ b.length) (fun x => [(1, .list (b.map tgV) tb), (5, .list (x.2.map tgV) .no), (6, .int .i64 x.1)]) (fun x => []) (fun x => σ) (fun x => b.length - x.1) (0, a) ?_ ?_ (Boxes.subW_nil _) ⟨fun _ _ h => h, fun _ h => List.mem_cons_of_mem _ h⟩ ?_
  · exact ⟨rfl, Nat.le_refl _, Nat.zero_le _⟩
  · exact Env.subW_one rfl <| Env.subW_cons rfl (.one (.no _ _)) <| Env.subW_one rfl <| Env.subW_nil _
  rintro ⟨i, out⟩ ⟨h0, ho1, ho2⟩
  try dsimp only at h0 ho1 ho2
  refine awp_seq ?_
  refine awp_region_k (fun _ => false) (by rw [hB]; rfl) fun K hK base hbase hfr => ?_
  refine tr_run ?_
  simp (disch := omega) only [go_sem, ↓reduceIte, za, zb, zc, zd, ze, zf, zg, zh, zi, zj, zk, zl, zm, zn, zo, dec_t, dec_f, ltI, leI, leN, le63, le40, le0, wrap64_id, wrapu64_id, wrap8_id]
  refine tr_nil (hK _ _ _ ?_)
  clear hK K hbase hfr base
  refine awp_cond (rfl) (fun h1 => ?_) (fun h1 => ?_)
  · try simp only [yb, yc, yd, ye, yf, yg, yh, yi, yj, yk, yl, ym, yn, yo] at h1
    obtain ⟨x, hx, hm, hi⟩ := get_of_lt h1
    refine awp_skip ?_
    refine then_n ?_
    refine awp_seq ?_
    refine awp_block ?_
    refine awp_drawn_k (fun f => f == 111) (fun _ => false) (by kernel_rfl) (by decide) (by rw [hB]; rfl) fun K hK base hbase hfr => ?_
    refine trd_run ?_
    simp (disch := omega) only [go_sem, ↓reduceIte, za, zb, zc, zd, ze, zf, zg, zh, zi, zj, zk, zl, zm, zn, zo, hx, dec_t, dec_f, ltI, leI, leN, le63, le40, le0, wrap64_id, wrapu64_id, wrap8_id]
    refine trd_pc (by kernel_rfl) (by rfl) (by simp only [go_sem, ↓reduceIte, za, zb, zc, zd, ze, zf, zg, zh, zi, zj, zk, zl, zm, zn, zo, hx] <;> rfl) (c111 out .no x.s) ?_
    simp (disch := omega) only [go_sem, ↓reduceIte, za, zb, zc, zd, ze, zf, zg, zh, zi, zj, zk, zl, zm, zn, zo, hx, dec_t, dec_f, ltI, leI, leN, le63, le40, le0, wrap64_id, wrapu64_id, wrap8_id]
    refine trd_nil (hK _ _ _ ?_)
    clear hK K hbase hfr base
    refine awp_cond (rfl) (fun h2 => ?_) (fun h2 => ?_)
    · try simp only [yb, yc, yd, ye, yf, yg, yh, yi, yj, yk, yl, ym, yn, yo] at h2
      refine awp_drawn_e (fun f => f == 112) (fun _ => false) (QI_block (QI_then KI_awp (QI_loopw (QI_block (QI_then KI_awp QI_endsP))))) (by kernel_rfl) (by decide) (by rw [hB]; rfl) fun K hK base hbase hfr => ?_
      refine trd_run ?_
      simp (disch := omega) only [go_sem, ↓reduceIte, za, zb, zc, zd, ze, zf, zg, zh, zi, zj, zk, zl, zm, zn, zo, hx, dec_t, dec_f, ltI, leI, leN, le63, le40, le0, wrap64_id, wrapu64_id, wrap8_id]
      refine trd_pc (by kernel_rfl) (by rfl) (by simp only [go_sem, ↓reduceIte, za, zb, zc, zd, ze, zf, zg, zh, zi, zj, zk, zl, zm, zn, zo, hx] <;> rfl) (c112 out .no x.s x.n (by omega)) ?_
      simp (disch := omega) only [go_sem, ↓reduceIte, za, zb, zc, zd, ze, zf, zg, zh, zi, zj, zk, zl, zm, zn, zo, hx, dec_t, dec_f, ltI, leI, leN, le63, le40, le0, wrap64_id, wrapu64_id, wrap8_id]
      refine trd_nil (hK _ _ _ ?_)
      clear hK K hbase hfr base
      refine block_n ?_
      refine then_n ?_
      refine awp_region_e (fun _ => false) (by rw [hB]; rfl) fun K hK base hbase hfr => ?_
      refine tr_run ?_
      simp (disch := omega) only [go_sem, ↓reduceIte, za, zb, zc, zd, ze, zf, zg, zh, zi, zj, zk, zl, zm, zn, zo, dec_t, dec_f, ltI, leI, leN, le63, le40, le0, wrap64_id, wrapu64_id, wrap8_id]
      refine tr_nil (hK _ _ _ ?_)
      clear hK K hbase hfr base
      refine then_n ⟨(i + 1, nWith out x.s x.n), ?_, ?_, ?_, ?_, Sh.sub_refl _⟩
      · refine ⟨?_, ?_, hi⟩
        · show List.foldl nStep (nWith out x.s x.n) _ = _
          have := foldl_drop hx h0
          rw [nStep, if_pos (by omega)] at this
          exact this
        · show (nWith out x.s x.n).length ≤ _
          have := nWith_len out x.s x.n
          omega
      · show b.length - (i + 1) < b.length - i; omega
      · exact Env.subW_one rfl <| Env.subW_one rfl <| Env.subW_one rfl <| Env.subW_nil _
      · exact Boxes.subW_nil _
    · try simp only [yb, yc, yd, ye, yf, yg, yh, yi, yj, yk, yl, ym, yn, yo] at h2
      refine awp_skip ?_
      refine block_n ?_
      refine then_n ?_
      refine awp_region_e (fun _ => false) (by rw [hB]; rfl) fun K hK base hbase hfr => ?_
      refine tr_run ?_
      simp (disch := omega) only [go_sem, ↓reduceIte, za, zb, zc, zd, ze, zf, zg, zh, zi, zj, zk, zl, zm, zn, zo, dec_t, dec_f, ltI, leI, leN, le63, le40, le0, wrap64_id, wrapu64_id, wrap8_id]
      refine tr_nil (hK _ _ _ ?_)
      clear hK K hbase hfr base
      refine then_n ⟨(i + 1, out), ?_, ?_, ?_, ?_, Sh.sub_refl _⟩
      · refine ⟨?_, ?_, hi⟩
        · show List.foldl nStep out _ = _
          have := foldl_drop hx h0
          rw [nStep, if_neg (by omega)] at this
          exact this
        · show out.length ≤ _
          omega
      · show b.length - (i + 1) < b.length - i; omega
      · exact Env.subW_one rfl <| Env.subW_one rfl <| Env.subW_one rfl <| Env.subW_nil _
      · exact Boxes.subW_nil _
  · try simp only [yb, yc, yd, ye, yf, yg, yh, yi, yj, yk, yl, ym, yn, yo] at h1
    refine awp_exit ?_
    refine then_x ?_
    refine then_x ?_
    refine block_x ?_
    refine then_n ?_
    have hfin : nJoin a b = out.take 100 := by unfold nJoin; rw [← h0, get_le h1]; rfl
    refine awp_seq ?_
    refine awp_region_k (fun _ => false) (by rw [hB]; rfl) fun K hK base hbase hfr => ?_
    refine tr_run ?_
    simp (disch := omega) only [go_sem, ↓reduceIte, za, zb, zc, zd, ze, zf, zg, zh, zi, zj, zk, zl, zm, zn, zo, dec_t, dec_f, ltI, leI, leN, le63, le40, le0, wrap64_id, wrapu64_id, wrap8_id]
    refine tr_nil (hK _ _ _ ?_)
    clear hK K hbase hfr base
    refine awp_cond (rfl) (fun h3 => ?_) (fun h3 => ?_)
    · try simp only [yb, yc, yd, ye, yf, yg, yh, yi, yj, yk, yl, ym, yn, yo] at h3
      refine awp_region_e (fun _ => false) (by rw [hB]; rfl) fun K hK base hbase hfr => ?_
      refine tr_run ?_
      simp (disch := omega) only [go_sem, ↓reduceIte, za, zb, zc, zd, ze, zf, zg, zh, zi, zj, zk, zl, zm, zn, zo, dec_t, dec_f, ltI, leI, leN, le63, le40, le0, wrap64_id, wrapu64_id, wrap8_id]
      refine tr_nil (hK _ _ _ ?_)
      clear hK K hbase hfr base
      refine then_n ?_
      refine awp_region_k (fun _ => false) (by rw [hB]; rfl) fun K hK base hbase hfr => ?_
      refine tr_run ?_
      simp (disch := omega) only [go_sem, ↓reduceIte, za, zb, zc, zd, ze, zf, zg, zh, zi, zj, zk, zl, zm, zn, zo, dec_t, dec_f, ltI, leI, leN, le63, le40, le0, wrap64_id, wrapu64_id, wrap8_id]
      refine tr_nil (hK _ _ _ ?_)
      clear hK K hbase hfr base
      refine awp_ret ?_
      refine ⟨_, rfl, ?_, fun _ _ h => h, fun _ h => h⟩
      rw [hfin]; exact .one (.one (.no _ _))
    · try simp only [yb, yc, yd, ye, yf, yg, yh, yi, yj, yk, yl, ym, yn, yo] at h3
      refine awp_skip ?_
      refine then_n ?_
      refine awp_region_k (fun _ => false) (by rw [hB]; rfl) fun K hK base hbase hfr => ?_
      refine tr_run ?_
      simp (disch := omega) only [go_sem, ↓reduceIte, za, zb, zc, zd, ze, zf, zg, zh, zi, zj, zk, zl, zm, zn, zo, dec_t, dec_f, ltI, leI, leN, le63, le40, le0, wrap64_id, wrapu64_id, wrap8_id]
      refine tr_nil (hK _ _ _ ?_)
      clear hK K hbase hfr base
      refine awp_ret ?_
      refine ⟨_, rfl, ?_, fun _ _ h => h, fun _ h => h⟩
      rw [hfin, List.take_of_length_le (by omega)]; exact VW.refl _
end Go.Am
