/- What functions of this program compute, a part: see the main text. No conditions. -/
import Derived.Test.YtanpeaakmdffcaaGreatW21
import Derived.Test.YtanpeaakmdffcaaGreatW20
set_option linter.all false
set_option maxRecDepth 100000
namespace Go.Am
open Go
open Nat renaming reduceEqDiff → za, reduceAdd → zb, reduceMul → zc, reducePow → zd, reduceLeDiff → ze, reduceSub → zf, reduceBEq → zg, reduceBNe → zh, reduceDiv → zi, reduceMod → zj
open Int renaming reduceLT → zk, reduceLE → zl, reduceEq → zm, reduceNe → zn, reduceToNat → zo

def pMay (p : Peer) : Bool := decide (1 ≤ p.id) && (decide (p.id ≤ 1099511627776) && (decide (0 ≤ p.inc) && (decide (p.inc ≤ 1073741824) && (decide (0 ≤ p.st) && decide (p.st ≤ 2)))))
def pLt (a b : Peer) : Bool := decide (a.id < b.id)
def pCheck (l : List Peer) : Bool := decide (l.length ≤ 64) && chkGo pMay pLt none l
def rPeer1 (r : Rd) : Rd := (rInt 1099511627776 r).2
def rPeer2 (r : Rd) : Rd := (rInt 1073741824 (rPeer1 r)).2
def rPeer (r : Rd) : Peer × Rd := (⟨(rInt 1099511627776 r).1, (rInt 1073741824 (rPeer1 r)).1, (rInt 2 (rPeer2 r)).1⟩, (rInt 2 (rPeer2 r)).2)
def rPeers : Rd → List Peer × Rd := rdL rPeer pCheck 64
theorem c162 (p : Peer) : PCalls Go.Proofs.Tryz.prog 162 [peerV p] (.bool (pMay p)) := by
  refine pcalls_of_awp Go.Proofs.Tryz.func162 rfl (by decide) (Nat.le_of_ble_eq_true rfl) ?_
  intro B σ hB ho hob
  refine awp_region_k (fun _ => false) (by rw [hB]; rfl) fun K hK base hbase hfr => ?_
  refine tr_run ?_
  simp (disch := omega) only [go_sem, ↓reduceIte, za, zb, zc, zd, ze, zf, zg, zh, zi, zj, zk, zl, zm, zn, zo, dec_t, dec_f, ltI, leI, leN, le63, le40, le0, wrap64_id, wrapu64_id, wrap8_id]
  refine tr_nil (hK _ _ _ ?_)
  clear hK K hbase hfr base
  refine awp_region_k (fun _ => false) (by rw [hB]; rfl) fun K hK base hbase hfr => ?_
  rcases q1 : decide (1 ≤ p.id) with _ | _
  · skip
    refine tr_run ?_
    simp (disch := omega) only [go_sem, ↓reduceIte, za, zb, zc, zd, ze, zf, zg, zh, zi, zj, zk, zl, zm, zn, zo, q1, dec_t, dec_f, ltI, leI, leN, le63, le40, le0, wrap64_id, wrapu64_id, wrap8_id]
    refine tr_nil (hK _ _ _ ?_)
    clear hK K hbase hfr base
    try simp only [yb, yc, yd, ye, yf, yg, yh, yi, yj, yk, yl, ym, yn, yo] at q1
    refine awp_ret ?_
    refine ⟨_, rfl, ?_, fun _ _ h => h, fun _ h => h⟩
    have e : pMay p = false := by unfold pMay; simp only [Bool.and_eq_false_iff, decide_eq_false_iff_not]; first | omega | simp_all
    rw [e]; exact VW.refl _
  · skip
    rcases q2 : decide (p.id ≤ 1099511627776) with _ | _
    · skip
      refine tr_run ?_
      simp (disch := omega) only [go_sem, ↓reduceIte, za, zb, zc, zd, ze, zf, zg, zh, zi, zj, zk, zl, zm, zn, zo, q1, q2, dec_t, dec_f, ltI, leI, leN, le63, le40, le0, wrap64_id, wrapu64_id, wrap8_id]
      refine tr_nil (hK _ _ _ ?_)
      clear hK K hbase hfr base
      try simp only [yb, yc, yd, ye, yf, yg, yh, yi, yj, yk, yl, ym, yn, yo] at q1
      try simp only [yb, yc, yd, ye, yf, yg, yh, yi, yj, yk, yl, ym, yn, yo] at q2
      refine awp_ret ?_
      refine ⟨_, rfl, ?_, fun _ _ h => h, fun _ h => h⟩
      have e : pMay p = false := by unfold pMay; simp only [Bool.and_eq_false_iff, decide_eq_false_iff_not]; first | omega | simp_all
      rw [e]; exact VW.refl _
    · skip
      rcases q3 : decide (0 ≤ p.inc) with _ | _
      · skip
        refine tr_run ?_
        simp (disch := omega) only [go_sem, ↓reduceIte, za, zb, zc, zd, ze, zf, zg, zh, zi, zj, zk, zl, zm, zn, zo, q1, q2, q3, dec_t, dec_f, ltI, leI, leN, le63, le40, le0, wrap64_id, wrapu64_id, wrap8_id]
        refine tr_nil (hK _ _ _ ?_)
        clear hK K hbase hfr base
        try simp only [yb, yc, yd, ye, yf, yg, yh, yi, yj, yk, yl, ym, yn, yo] at q1
        try simp only [yb, yc, yd, ye, yf, yg, yh, yi, yj, yk, yl, ym, yn, yo] at q2
        try simp only [yb, yc, yd, ye, yf, yg, yh, yi, yj, yk, yl, ym, yn, yo] at q3
        refine awp_ret ?_
        refine ⟨_, rfl, ?_, fun _ _ h => h, fun _ h => h⟩
        have e : pMay p = false := by unfold pMay; simp only [Bool.and_eq_false_iff, decide_eq_false_iff_not]; first | omega | simp_all
        rw [e]; exact VW.refl _
      · skip
        rcases q4 : decide (p.inc ≤ 1073741824) with _ | _
        · skip
          refine tr_run ?_
          simp (disch := omega) only [go_sem, ↓reduceIte, za, zb, zc, zd, ze, zf, zg, zh, zi, zj, zk, zl, zm, zn, zo, q1, q2, q3, q4, dec_t, dec_f, ltI, leI, leN, le63, le40, le0, wrap64_id, wrapu64_id, wrap8_id]
          refine tr_nil (hK _ _ _ ?_)
          clear hK K hbase hfr base
          try simp only [yb, yc, yd, ye, yf, yg, yh, yi, yj, yk, yl, ym, yn, yo] at q1
          try simp only [yb, yc, yd, ye, yf, yg, yh, yi, yj, yk, yl, ym, yn, yo] at q2
          try simp only [yb, yc, yd, ye, yf, yg, yh, yi, yj, yk, yl, ym, yn, yo] at q3
          try simp only [yb, yc, yd, ye, yf, yg, yh, yi, yj, yk, yl, ym, yn, yo] at q4
          refine awp_ret ?_
          refine ⟨_, rfl, ?_, fun _ _ h => h, fun _ h => h⟩
          have e : pMay p = false := by unfold pMay; simp only [Bool.and_eq_false_iff, decide_eq_false_iff_not]; first | omega | simp_all
          rw [e]; exact VW.refl _
        · skip
          rcases q5 : decide (0 ≤ p.st) with _ | _
          · skip
            refine tr_run ?_
            simp (disch := omega) only [go_sem, ↓reduceIte, za, zb, zc, zd, ze, zf, zg, zh, zi, zj, zk, zl, zm, zn, zo, q1, q2, q3, q4, q5, dec_t, dec_f, ltI, leI, leN, le63, le40, le0, wrap64_id, wrapu64_id, wrap8_id]
            refine tr_nil (hK _ _ _ ?_)
            clear hK K hbase hfr base
            try simp only [yb, yc, yd, ye, yf, yg, yh, yi, yj, yk, yl, ym, yn, yo] at q1
            try simp only [yb, yc, yd, ye, yf, yg, yh, yi, yj, yk, yl, ym, yn, yo] at q2
            try simp only [yb, yc, yd, ye, yf, yg, yh, yi, yj, yk, yl, ym, yn, yo] at q3
            try simp only [yb, yc, yd, ye, yf, yg, yh, yi, yj, yk, yl, ym, yn, yo] at q4
            try simp only [yb, yc, yd, ye, yf, yg, yh, yi, yj, yk, yl, ym, yn, yo] at q5
            refine awp_ret ?_
            refine ⟨_, rfl, ?_, fun _ _ h => h, fun _ h => h⟩
            have e : pMay p = false := by unfold pMay; simp only [Bool.and_eq_false_iff, decide_eq_false_iff_not]; first | omega | simp_all
            rw [e]; exact VW.refl _
          · skip
            refine tr_run ?_
            simp (disch := omega) only [go_sem, ↓reduceIte, za, zb, zc, zd, ze, zf, zg, zh, zi, zj, zk, zl, zm, zn, zo, q1, q2, q3, q4, q5, dec_t, dec_f, ltI, leI, leN, le63, le40, le0, wrap64_id, wrapu64_id, wrap8_id]
            refine tr_nil (hK _ _ _ ?_)
            clear hK K hbase hfr base
            try simp only [yb, yc, yd, ye, yf, yg, yh, yi, yj, yk, yl, ym, yn, yo] at q1
            try simp only [yb, yc, yd, ye, yf, yg, yh, yi, yj, yk, yl, ym, yn, yo] at q2
            try simp only [yb, yc, yd, ye, yf, yg, yh, yi, yj, yk, yl, ym, yn, yo] at q3
            try simp only [yb, yc, yd, ye, yf, yg, yh, yi, yj, yk, yl, ym, yn, yo] at q4
            try simp only [yb, yc, yd, ye, yf, yg, yh, yi, yj, yk, yl, ym, yn, yo] at q5
            refine awp_ret ?_
            refine ⟨_, rfl, ?_, fun _ _ h => h, fun _ h => h⟩
            have e : pMay p = decide (p.st ≤ 2) := by unfold pMay; simp (disch := omega) only [dec_t, Bool.true_and, *, decide_true]
            rw [e]; exact VW.refl _
theorem c113 (l : List Peer) (tg : Tag) : PCalls Go.Proofs.Tryz.prog 113 [.list (l.map peerV) tg] (.int .i64 (if pCheck l then 0 else 1)) := by
  refine pcalls_of_awp Go.Proofs.Tryz.func113 rfl (by decide) (Nat.le_of_ble_eq_true rfl) ?_
  intro B σ hB ho hob
  refine awp_region_k (fun _ => false) (by rw [hB]; rfl) fun K hK base hbase hfr => ?_
  refine tr_run ?_
  simp (disch := omega) only [go_sem, ↓reduceIte, za, zb, zc, zd, ze, zf, zg, zh, zi, zj, zk, zl, zm, zn, zo, dec_t, dec_f, ltI, leI, leN, le63, le40, le0, wrap64_id, wrapu64_id, wrap8_id]
  refine tr_nil (hK _ _ _ ?_)
  clear hK K hbase hfr base
  refine awp_seq ?_
  refine awp_region_k (fun _ => false) (by rw [hB]; rfl) fun K hK base hbase hfr => ?_
  refine tr_run ?_
  simp (disch := omega) only [go_sem, ↓reduceIte, za, zb, zc, zd, ze, zf, zg, zh, zi, zj, zk, zl, zm, zn, zo, dec_t, dec_f, ltI, leI, leN, le63, le40, le0, wrap64_id, wrapu64_id, wrap8_id]
  refine tr_nil (hK _ _ _ ?_)
  clear hK K hbase hfr base
  refine awp_len 5 rfl fun hlen => ?_
  simp only [List.length_map] at hlen
  refine awp_cond (rfl) (fun h1 => ?_) (fun h1 => ?_)
  · try simp only [yb, yc, yd, ye, yf, yg, yh, yi, yj, yk, yl, ym, yn, yo] at h1
    refine awp_region_k (fun _ => false) (by rw [hB]; rfl) fun K hK base hbase hfr => ?_
    refine tr_run ?_
    simp (disch := omega) only [go_sem, ↓reduceIte, za, zb, zc, zd, ze, zf, zg, zh, zi, zj, zk, zl, zm, zn, zo, dec_t, dec_f, ltI, leI, leN, le63, le40, le0, wrap64_id, wrapu64_id, wrap8_id]
    refine tr_nil (hK _ _ _ ?_)
    clear hK K hbase hfr base
    refine awp_ret ?_
    refine then_r ?_
    rw [show pCheck l = false by unfold pCheck; rw [dec_f (by omega)]; rfl]
    exact ⟨_, rfl, VW.refl _, fun _ _ h => h, fun _ h => h⟩
  · try simp only [yb, yc, yd, ye, yf, yg, yh, yi, yj, yk, yl, ym, yn, yo] at h1
    refine awp_skip ?_
    refine then_n ?_
    refine awp_seq ?_
    refine awp_region_k (fun _ => false) (by rw [hB]; rfl) fun K hK base hbase hfr => ?_
    refine tr_run ?_
    simp (disch := omega) only [go_sem, ↓reduceIte, za, zb, zc, zd, ze, zf, zg, zh, zi, zj, zk, zl, zm, zn, zo, dec_t, dec_f, ltI, leI, leN, le63, le40, le0, wrap64_id, wrapu64_id, wrap8_id]
    refine tr_nil (hK _ _ _ ?_)
    clear hK K hbase hfr base
    refine awp_block ?_
    refine awp_loop_w (α := Nat) (fun x => chkGo pMay pLt (prevL l x) (l.drop x) = chkGo pMay pLt none l) (fun x => [(0, .list (l.map peerV) tg), (2, .int .i64 0), (3, .int .i64 x)]) (fun x => []) (fun x => σ) (fun x => l.length - x) 0 ?_ ?_ (Boxes.subW_nil _) (Sh.sub_refl _) ?_
    · exact rfl
    · exact Env.subW_one rfl <| Env.subW_one rfl <| Env.subW_one rfl <| Env.subW_nil _
    rintro i h0
    try dsimp only at h0
    refine awp_seq ?_
    refine awp_region_k (fun _ => false) (by rw [hB]; rfl) fun K hK base hbase hfr => ?_
    refine tr_run ?_
    simp (disch := omega) only [go_sem, ↓reduceIte, za, zb, zc, zd, ze, zf, zg, zh, zi, zj, zk, zl, zm, zn, zo, dec_t, dec_f, ltI, leI, leN, le63, le40, le0, wrap64_id, wrapu64_id, wrap8_id]
    refine tr_nil (hK _ _ _ ?_)
    clear hK K hbase hfr base
    refine awp_cond (rfl) (fun h2 => ?_) (fun h2 => ?_)
    · try simp only [yb, yc, yd, ye, yf, yg, yh, yi, yj, yk, yl, ym, yn, yo] at h2
      obtain ⟨x, hx, hm, hi⟩ := get_of_lt h2
      obtain ⟨y, hy⟩ : ∃ y, l[i - 1]? = some y := ⟨l[i - 1], List.getElem?_eq_getElem (by omega)⟩
      have hip : ((i : Int) - 1).toNat = i - 1 := by omega
      refine awp_skip ?_
      refine then_n ?_
      refine awp_seq ?_
      refine awp_block ?_
      refine awp_region_k (fun _ => false) (by rw [hB]; rfl) fun K hK base hbase hfr => ?_
      refine tr_run ?_
      simp (disch := omega) only [go_sem, ↓reduceIte, za, zb, zc, zd, ze, zf, zg, zh, zi, zj, zk, zl, zm, zn, zo, hx, dec_t, dec_f, ltI, leI, leN, le63, le40, le0, wrap64_id, wrapu64_id, wrap8_id]
      refine tr_pc (by rfl) (by simp only [go_sem, ↓reduceIte, za, zb, zc, zd, ze, zf, zg, zh, zi, zj, zk, zl, zm, zn, zo, hx] <;> rfl) (c162 x) ?_
      simp (disch := omega) only [go_sem, ↓reduceIte, za, zb, zc, zd, ze, zf, zg, zh, zi, zj, zk, zl, zm, zn, zo, hx, dec_t, dec_f, ltI, leI, leN, le63, le40, le0, wrap64_id, wrapu64_id, wrap8_id]
      refine tr_nil (hK _ _ _ ?_)
      clear hK K hbase hfr base
      refine awp_drawn_k (fun _ => false) (fun _ => false) (by kernel_rfl) (by decide) (by rw [hB]; rfl) fun K hK base hbase hfr => ?_
      rcases q3 : pMay x with _ | _
      · skip
        refine trd_run ?_
        try have hpos : (0 : Int) < (i : Int) := of_decide_eq_true (by assumption)
        simp (disch := omega) only [go_sem, ↓reduceIte, za, zb, zc, zd, ze, zf, zg, zh, zi, zj, zk, zl, zm, zn, zo, hx, hy, hip, q3, dec_t, dec_f, ltI, leI, leN, le63, le40, le0, wrap64_id, wrapu64_id, wrap8_id]
        refine trd_nil (hK _ _ _ ?_)
        clear hK K hbase hfr base
        try simp only [yb, yc, yd, ye, yf, yg, yh, yi, yj, yk, yl, ym, yn, yo] at q3
        refine awp_cond (rfl) (fun h4 => ?_) (fun h4 => by cases h4)
        refine awp_region_k (fun _ => false) (by rw [hB]; rfl) fun K hK base hbase hfr => ?_
        refine tr_run ?_
        simp (disch := omega) only [go_sem, ↓reduceIte, za, zb, zc, zd, ze, zf, zg, zh, zi, zj, zk, zl, zm, zn, zo, dec_t, dec_f, ltI, leI, leN, le63, le40, le0, wrap64_id, wrapu64_id, wrap8_id]
        refine tr_nil (hK _ _ _ ?_)
        clear hK K hbase hfr base
        refine awp_ret ?_
        refine block_r ?_
        refine then_r ?_
        refine then_r ?_
        refine block_r ?_
        refine then_r ?_
        rw [show pCheck l = false by unfold pCheck; rw [chk_ok hx (by first | (simp_all; done) | (unfold pMay; simp_all)) h0]; simp]
        exact ⟨_, rfl, VW.refl _, fun _ _ h => h, fun _ h => h⟩
      · skip
        rcases q5 : decide ((0 : Int) < (i : Int)) with _ | _
        · skip
          refine trd_run ?_
          try have hpos : (0 : Int) < (i : Int) := of_decide_eq_true (by assumption)
          simp (disch := omega) only [go_sem, ↓reduceIte, za, zb, zc, zd, ze, zf, zg, zh, zi, zj, zk, zl, zm, zn, zo, hx, hy, hip, q3, q5, dec_t, dec_f, ltI, leI, leN, le63, le40, le0, wrap64_id, wrapu64_id, wrap8_id]
          refine trd_nil (hK _ _ _ ?_)
          clear hK K hbase hfr base
          try simp only [yb, yc, yd, ye, yf, yg, yh, yi, yj, yk, yl, ym, yn, yo] at q3
          try simp only [yb, yc, yd, ye, yf, yg, yh, yi, yj, yk, yl, ym, yn, yo] at q5
          refine awp_cond (rfl) (fun h6 => by cases h6) (fun h6 => ?_)
          refine awp_skip ?_
          refine block_n ?_
          refine then_n ?_
          refine awp_region_e (fun _ => false) (by rw [hB]; rfl) fun K hK base hbase hfr => ?_
          refine tr_run ?_
          simp (disch := omega) only [go_sem, ↓reduceIte, za, zb, zc, zd, ze, zf, zg, zh, zi, zj, zk, zl, zm, zn, zo, dec_t, dec_f, ltI, leI, leN, le63, le40, le0, wrap64_id, wrapu64_id, wrap8_id]
          refine tr_nil (hK _ _ _ ?_)
          clear hK K hbase hfr base
          refine then_n ⟨i + 1, ?_, ?_, ?_, ?_, Sh.sub_refl _⟩
          · exact chk_zero hx (by omega) (by first | (simp_all; done) | (unfold pMay; simp_all)) h0
          · show l.length - (i + 1) < l.length - i; omega
          · exact Env.subW_one rfl <| Env.subW_one rfl <| Env.subW_one rfl <| Env.subW_nil _
          · exact Boxes.subW_nil _
        · skip
          refine trd_run ?_
          try have hpos : (0 : Int) < (i : Int) := of_decide_eq_true (by assumption)
          simp (disch := omega) only [go_sem, ↓reduceIte, za, zb, zc, zd, ze, zf, zg, zh, zi, zj, zk, zl, zm, zn, zo, hx, hy, hip, q3, q5, dec_t, dec_f, ltI, leI, leN, le63, le40, le0, wrap64_id, wrapu64_id, wrap8_id]
          refine trd_nil (hK _ _ _ ?_)
          clear hK K hbase hfr base
          try simp only [yb, yc, yd, ye, yf, yg, yh, yi, yj, yk, yl, ym, yn, yo] at q3
          try simp only [yb, yc, yd, ye, yf, yg, yh, yi, yj, yk, yl, ym, yn, yo] at q5
          refine awp_cond (rfl) (fun h7 => ?_) (fun h7 => ?_)
          · try simp only [yb, yc, yd, ye, yf, yg, yh, yi, yj, yk, yl, ym, yn, yo] at h7
            refine awp_region_k (fun _ => false) (by rw [hB]; rfl) fun K hK base hbase hfr => ?_
            refine tr_run ?_
            simp (disch := omega) only [go_sem, ↓reduceIte, za, zb, zc, zd, ze, zf, zg, zh, zi, zj, zk, zl, zm, zn, zo, dec_t, dec_f, ltI, leI, leN, le63, le40, le0, wrap64_id, wrapu64_id, wrap8_id]
            refine tr_nil (hK _ _ _ ?_)
            clear hK K hbase hfr base
            refine awp_ret ?_
            refine block_r ?_
            refine then_r ?_
            refine then_r ?_
            refine block_r ?_
            refine then_r ?_
            rw [show pCheck l = false by unfold pCheck; rw [chk_lt hx hy (by omega) (by show decide (y.id < x.id) = false; exact dec_f (by omega)) h0]; simp]
            exact ⟨_, rfl, VW.refl _, fun _ _ h => h, fun _ h => h⟩
          · try simp only [yb, yc, yd, ye, yf, yg, yh, yi, yj, yk, yl, ym, yn, yo] at h7
            refine awp_skip ?_
            refine block_n ?_
            refine then_n ?_
            refine awp_region_e (fun _ => false) (by rw [hB]; rfl) fun K hK base hbase hfr => ?_
            refine tr_run ?_
            simp (disch := omega) only [go_sem, ↓reduceIte, za, zb, zc, zd, ze, zf, zg, zh, zi, zj, zk, zl, zm, zn, zo, dec_t, dec_f, ltI, leI, leN, le63, le40, le0, wrap64_id, wrapu64_id, wrap8_id]
            refine tr_nil (hK _ _ _ ?_)
            clear hK K hbase hfr base
            refine then_n ⟨i + 1, ?_, ?_, ?_, ?_, Sh.sub_refl _⟩
            · exact chk_next hx hy (by omega) (by first | (simp_all; done) | (unfold pMay; simp_all)) (by show decide (y.id < x.id) = true; exact dec_t (by omega)) h0
            · show l.length - (i + 1) < l.length - i; omega
            · exact Env.subW_one rfl <| Env.subW_one rfl <| Env.subW_one rfl <| Env.subW_nil _
            · exact Boxes.subW_nil _
    · try simp only [yb, yc, yd, ye, yf, yg, yh, yi, yj, yk, yl, ym, yn, yo] at h2
      refine awp_exit ?_
      refine then_x ?_
      refine then_x ?_
      refine block_x ?_
      refine then_n ?_
      refine awp_region_k (fun _ => false) (by rw [hB]; rfl) fun K hK base hbase hfr => ?_
      refine tr_run ?_
      simp (disch := omega) only [go_sem, ↓reduceIte, za, zb, zc, zd, ze, zf, zg, zh, zi, zj, zk, zl, zm, zn, zo, dec_t, dec_f, ltI, leI, leN, le63, le40, le0, wrap64_id, wrapu64_id, wrap8_id]
      refine tr_nil (hK _ _ _ ?_)
      clear hK K hbase hfr base
      refine awp_ret ?_
      rw [show pCheck l = true by unfold pCheck; rw [dec_t (by omega), chk_end (by omega) h0]; rfl]
      exact ⟨_, rfl, VW.refl _, fun _ _ h => h, fun _ h => h⟩
theorem c51 (σ : Sh) (oid : Nat) (r : Rd) (hσ : σ.ob oid = some (.cells (rdV r))) : WCalls Go.Proofs.Tryz.prog 51 [.ptr oid 0] σ (.list ((rdL rPeer pCheck 64 r).1.map peerV) .no) (σ.setOb oid (.cells (rdV (rdL rPeer pCheck 64 r).2))) := by
  obtain ⟨hge, hle⟩ := rInt_le 64 r (by decide)
  refine wcalls_of_awp Go.Proofs.Tryz.func51 rfl (by decide) (Nat.le_of_ble_eq_true rfl) ?_
  intro B hB ho hob
  refine awp_region_k (fun _ => false) (by rw [hB]; rfl) fun K hK base hbase hfr => ?_
  refine tr_run ?_
  simp (disch := omega) only [go_sem, ↓reduceIte, za, zb, zc, zd, ze, zf, zg, zh, zi, zj, zk, zl, zm, zn, zo, dec_t, dec_f, ltI, leI, leN, le63, le40, le0, wrap64_id, wrapu64_id, wrap8_id]
  refine tr_nil (hK _ _ _ ?_)
  clear hK K hbase hfr base
  refine awp_region_k (fun _ => false) (by rw [hB]; rfl) fun K hK base hbase hfr => ?_
  refine tr_run ?_
  simp (disch := omega) only [go_sem, ↓reduceIte, za, zb, zc, zd, ze, zf, zg, zh, zi, zj, zk, zl, zm, zn, zo, dec_t, dec_f, ltI, leI, leN, le63, le40, le0, wrap64_id, wrapu64_id, wrap8_id]
  refine tr_wc (by rfl) (by simp only [go_sem, ↓reduceIte, za, zb, zc, zd, ze, zf, zg, zh, zi, zj, zk, zl, zm, zn, zo] <;> rfl) (c45 σ oid r _ (by decide) (by unfold I63; decide) hσ) ?_
  simp (disch := omega) only [go_sem, ↓reduceIte, za, zb, zc, zd, ze, zf, zg, zh, zi, zj, zk, zl, zm, zn, zo, dec_t, dec_f, ltI, leI, leN, le63, le40, le0, wrap64_id, wrapu64_id, wrap8_id]
  refine tr_nil (hK _ _ _ ?_)
  clear hK K hbase hfr base
  refine awp_region_k (fun _ => false) (by rw [hB]; rfl) fun K hK base hbase hfr => ?_
  refine tr_run ?_
  simp (disch := omega) only [go_sem, ↓reduceIte, za, zb, zc, zd, ze, zf, zg, zh, zi, zj, zk, zl, zm, zn, zo, dec_t, dec_f, ltI, leI, leN, le63, le40, le0, wrap64_id, wrapu64_id, wrap8_id]
  refine tr_nil (hK _ _ _ ?_)
  clear hK K hbase hfr base
  refine awp_seq ?_
  refine awp_region_k (fun _ => false) (by rw [hB]; rfl) fun K hK base hbase hfr => ?_
  refine tr_run ?_
  simp (disch := omega) only [go_sem, ↓reduceIte, za, zb, zc, zd, ze, zf, zg, zh, zi, zj, zk, zl, zm, zn, zo, dec_t, dec_f, ltI, leI, leN, le63, le40, le0, wrap64_id, wrapu64_id, wrap8_id]
  refine tr_nil (hK _ _ _ ?_)
  clear hK K hbase hfr base
  refine awp_block ?_
  refine awp_tok 4 rfl fun t0 ht0 => ?_
  refine awp_loop_w (α := Nat × List Peer × Nat × Rd) (fun x => rlGo rPeer ((rInt 64 r).1.toNat - x.1) x.2.1 x.2.2.2 = rdL0 rPeer 64 r ∧ x.2.1.length ≤ x.1 ∧ x.1 ≤ (rInt 64 r).1.toNat ∧ B.g.nt ≤ x.2.2.1) (fun x => [(0, .ptr oid 0), (3, .int .i64 (rInt 64 r).1), (4, .list (x.2.1.map peerV) (.tok x.2.2.1)), (5, .int .i64 x.1)]) (fun x => []) (fun x => ({ σ with live := x.2.2.1 :: σ.live } : Sh).setOb oid (.cells (rdV x.2.2.2))) (fun x => (rInt 64 r).1.toNat - x.1) (0, [], t0, (rInt 64 r).2) ?_ ?_ (Boxes.subW_nil _) (Sh.sub_refl _) ?_
  · exact ⟨rfl, Nat.le_refl _, Nat.zero_le _, ht0⟩
  · exact Env.subW_one rfl <| Env.subW_one rfl <| Env.subW_one rfl <| Env.subW_one rfl <| Env.subW_nil _
  rintro ⟨i, out, t, rr⟩ ⟨hG, ho1, ho2, ht⟩
  try dsimp only at hG ho1 ho2 ht
  refine awp_seq ?_
  refine awp_region_k (fun _ => false) (by rw [hB]; rfl) fun K hK base hbase hfr => ?_
  rcases q1 : decide ((i : Int) < (rInt 64 r).1) with _ | _
  · skip
    refine tr_run ?_
    simp (disch := omega) only [go_sem, ↓reduceIte, za, zb, zc, zd, ze, zf, zg, zh, zi, zj, zk, zl, zm, zn, zo, q1, dec_t, dec_f, ltI, leI, leN, le63, le40, le0, wrap64_id, wrapu64_id, wrap8_id]
    refine tr_nil (hK _ _ _ ?_)
    clear hK K hbase hfr base
    try simp only [yb, yc, yd, ye, yf, yg, yh, yi, yj, yk, yl, ym, yn, yo] at q1
    refine awp_cond (rfl) (fun h2 => by cases h2) (fun h2 => ?_)
    refine awp_exit ?_
    refine then_x ?_
    refine then_x ?_
    refine block_x ?_
    refine then_n ?_
    have hres : rdL0 rPeer 64 r = (out, rr) := by rw [← hG, show (rInt 64 r).1.toNat - i = 0 by omega]; rfl
    refine awp_seq ?_
    refine awp_region_k (fun _ => false) (by rw [hB]; rfl) fun K hK base hbase hfr => ?_
    rcases q3 : rr.torn with _ | _
    · skip
      refine tr_run ?_
      simp (disch := omega) only [go_sem, ↓reduceIte, za, zb, zc, zd, ze, zf, zg, zh, zi, zj, zk, zl, zm, zn, zo, q3, dec_t, dec_f, ltI, leI, leN, le63, le40, le0, wrap64_id, wrapu64_id, wrap8_id]
      refine tr_pc (by simp only [go_sem, ↓reduceIte, za, zb, zc, zd, ze, zf, zg, zh, zi, zj, zk, zl, zm, zn, zo, q3]) (by simp only [go_sem, ↓reduceIte, za, zb, zc, zd, ze, zf, zg, zh, zi, zj, zk, zl, zm, zn, zo, q3] <;> rfl) (c113 out (.tok t)) ?_
      simp (disch := omega) only [go_sem, ↓reduceIte, za, zb, zc, zd, ze, zf, zg, zh, zi, zj, zk, zl, zm, zn, zo, q3, dec_t, dec_f, ltI, leI, leN, le63, le40, le0, wrap64_id, wrapu64_id, wrap8_id]
      refine tr_nil (hK _ _ _ ?_)
      clear hK K hbase hfr base
      try simp only [yb, yc, yd, ye, yf, yg, yh, yi, yj, yk, yl, ym, yn, yo] at q3
      refine awp_cond (rfl) (fun h4 => ?_) (fun h4 => ?_)
      · try simp only [yb, yc, yd, ye, yf, yg, yh, yi, yj, yk, yl, ym, yn, yo] at h4
        refine awp_region_k (fun _ => false) (by rw [hB]; rfl) fun K hK base hbase hfr => ?_
        refine tr_run ?_
        simp (disch := omega) only [go_sem, ↓reduceIte, za, zb, zc, zd, ze, zf, zg, zh, zi, zj, zk, zl, zm, zn, zo, dec_t, dec_f, ltI, leI, leN, le63, le40, le0, wrap64_id, wrapu64_id, wrap8_id]
        refine tr_nil (hK _ _ _ ?_)
        clear hK K hbase hfr base
        refine awp_region_k (fun _ => false) (by rw [hB]; rfl) fun K hK base hbase hfr => ?_
        refine tr_run ?_
        simp (disch := omega) only [go_sem, ↓reduceIte, za, zb, zc, zd, ze, zf, zg, zh, zi, zj, zk, zl, zm, zn, zo, dec_t, dec_f, ltI, leI, leN, le63, le40, le0, wrap64_id, wrapu64_id, wrap8_id]
        refine tr_nil (hK _ _ _ ?_)
        clear hK K hbase hfr base
        refine awp_ret ?_
        refine then_r ?_
        have e : pCheck out = false := by cases hh : pCheck out <;> simp_all
        rw [rdL_bad (.inr (by rw [hres]; exact e)), hres]
        exact ⟨_, rfl, (.one (.one (.no _ _))), fun _ _ h => h, fun _ h => List.mem_cons_of_mem _ h⟩
      · try simp only [yb, yc, yd, ye, yf, yg, yh, yi, yj, yk, yl, ym, yn, yo] at h4
        refine awp_skip ?_
        refine then_n ?_
        refine awp_region_k (fun _ => false) (by rw [hB]; rfl) fun K hK base hbase hfr => ?_
        refine tr_run ?_
        simp (disch := omega) only [go_sem, ↓reduceIte, za, zb, zc, zd, ze, zf, zg, zh, zi, zj, zk, zl, zm, zn, zo, dec_t, dec_f, ltI, leI, leN, le63, le40, le0, wrap64_id, wrapu64_id, wrap8_id]
        refine tr_nil (hK _ _ _ ?_)
        clear hK K hbase hfr base
        refine awp_ret ?_
        have e : pCheck out = true := by cases hh : pCheck out <;> simp_all
        have e2 : rr.torn = false := by assumption
        rw [rdL_ok (by rw [hres]; exact e2) (by rw [hres]; exact e), hres, show rdV (out, rr).2 = [.str rr.s, .bool false] by rw [← e2]; rfl]
        exact ⟨_, rfl, (.one (.one (.no _ _))), fun _ _ h => h, fun _ h => List.mem_cons_of_mem _ h⟩
    · skip
      refine tr_run ?_
      simp (disch := omega) only [go_sem, ↓reduceIte, za, zb, zc, zd, ze, zf, zg, zh, zi, zj, zk, zl, zm, zn, zo, q3, dec_t, dec_f, ltI, leI, leN, le63, le40, le0, wrap64_id, wrapu64_id, wrap8_id]
      refine tr_nil (hK _ _ _ ?_)
      clear hK K hbase hfr base
      try simp only [yb, yc, yd, ye, yf, yg, yh, yi, yj, yk, yl, ym, yn, yo] at q3
      refine awp_cond (rfl) (fun h5 => ?_) (fun h5 => by cases h5)
      refine awp_region_k (fun _ => false) (by rw [hB]; rfl) fun K hK base hbase hfr => ?_
      refine tr_run ?_
      simp (disch := omega) only [go_sem, ↓reduceIte, za, zb, zc, zd, ze, zf, zg, zh, zi, zj, zk, zl, zm, zn, zo, dec_t, dec_f, ltI, leI, leN, le63, le40, le0, wrap64_id, wrapu64_id, wrap8_id]
      refine tr_nil (hK _ _ _ ?_)
      clear hK K hbase hfr base
      refine awp_region_k (fun _ => false) (by rw [hB]; rfl) fun K hK base hbase hfr => ?_
      refine tr_run ?_
      simp (disch := omega) only [go_sem, ↓reduceIte, za, zb, zc, zd, ze, zf, zg, zh, zi, zj, zk, zl, zm, zn, zo, dec_t, dec_f, ltI, leI, leN, le63, le40, le0, wrap64_id, wrapu64_id, wrap8_id]
      refine tr_nil (hK _ _ _ ?_)
      clear hK K hbase hfr base
      refine awp_ret ?_
      refine then_r ?_
      rw [rdL_bad (.inl (by rw [hres]; assumption)), hres]
      exact ⟨_, rfl, (.one (.one (.no _ _))), fun _ _ h => h, fun _ h => List.mem_cons_of_mem _ h⟩
  · skip
    refine tr_run ?_
    simp (disch := omega) only [go_sem, ↓reduceIte, za, zb, zc, zd, ze, zf, zg, zh, zi, zj, zk, zl, zm, zn, zo, q1, dec_t, dec_f, ltI, leI, leN, le63, le40, le0, wrap64_id, wrapu64_id, wrap8_id]
    refine tr_nil (hK _ _ _ ?_)
    clear hK K hbase hfr base
    try simp only [yb, yc, yd, ye, yf, yg, yh, yi, yj, yk, yl, ym, yn, yo] at q1
    refine awp_cond (rfl) (fun h6 => ?_) (fun h6 => ?_)
    · try simp only [yb, yc, yd, ye, yf, yg, yh, yi, yj, yk, yl, ym, yn, yo] at h6
      have htn : rr.torn = false := by cases hh : rr.torn <;> simp_all
      refine awp_skip ?_
      refine then_n ?_
      refine awp_seq ?_
      refine awp_block ?_
      refine awp_region_k (fun _ => false) (by rw [hB]; rfl) fun K hK base hbase hfr => ?_
      refine tr_run ?_
      simp (disch := omega) only [go_sem, ↓reduceIte, za, zb, zc, zd, ze, zf, zg, zh, zi, zj, zk, zl, zm, zn, zo, dec_t, dec_f, ltI, leI, leN, le63, le40, le0, wrap64_id, wrapu64_id, wrap8_id]
      refine tr_wc (by rfl) (by simp only [go_sem, ↓reduceIte, za, zb, zc, zd, ze, zf, zg, zh, zi, zj, zk, zl, zm, zn, zo] <;> rfl) (c45 _ oid rr _ (by decide) (by unfold I63; decide) (setOb_same _ _ _)) ?_
      simp (disch := omega) only [go_sem, ↓reduceIte, za, zb, zc, zd, ze, zf, zg, zh, zi, zj, zk, zl, zm, zn, zo, dec_t, dec_f, ltI, leI, leN, le63, le40, le0, wrap64_id, wrapu64_id, wrap8_id]
      refine tr_nil (hK _ _ _ ?_)
      clear hK K hbase hfr base
      refine awp_region_k (fun _ => false) (by rw [hB]; rfl) fun K hK base hbase hfr => ?_
      refine tr_run ?_
      simp (disch := omega) only [go_sem, ↓reduceIte, za, zb, zc, zd, ze, zf, zg, zh, zi, zj, zk, zl, zm, zn, zo, dec_t, dec_f, ltI, leI, leN, le63, le40, le0, wrap64_id, wrapu64_id, wrap8_id]
      refine tr_wc (by rfl) (by simp only [go_sem, ↓reduceIte, za, zb, zc, zd, ze, zf, zg, zh, zi, zj, zk, zl, zm, zn, zo] <;> rfl) (c45 _ oid (rPeer1 rr) _ (by decide) (by unfold I63; decide) (setOb_same _ _ _)) ?_
      simp (disch := omega) only [go_sem, ↓reduceIte, za, zb, zc, zd, ze, zf, zg, zh, zi, zj, zk, zl, zm, zn, zo, dec_t, dec_f, ltI, leI, leN, le63, le40, le0, wrap64_id, wrapu64_id, wrap8_id]
      refine tr_nil (hK _ _ _ ?_)
      clear hK K hbase hfr base
      refine awp_region_k (fun _ => false) (by rw [hB]; rfl) fun K hK base hbase hfr => ?_
      refine tr_run ?_
      simp (disch := omega) only [go_sem, ↓reduceIte, za, zb, zc, zd, ze, zf, zg, zh, zi, zj, zk, zl, zm, zn, zo, dec_t, dec_f, ltI, leI, leN, le63, le40, le0, wrap64_id, wrapu64_id, wrap8_id]
      refine tr_wc (by rfl) (by simp only [go_sem, ↓reduceIte, za, zb, zc, zd, ze, zf, zg, zh, zi, zj, zk, zl, zm, zn, zo] <;> rfl) (c45 _ oid (rPeer2 rr) _ (by decide) (by unfold I63; decide) (setOb_same _ _ _)) ?_
      simp (disch := omega) only [go_sem, ↓reduceIte, za, zb, zc, zd, ze, zf, zg, zh, zi, zj, zk, zl, zm, zn, zo, dec_t, dec_f, ltI, leI, leN, le63, le40, le0, wrap64_id, wrapu64_id, wrap8_id]
      refine tr_nil (hK _ _ _ ?_)
      clear hK K hbase hfr base
      refine awp_region_e (fun _ => false) (by rw [hB]; rfl) fun K hK base hbase hfr => ?_
      refine tr_run ?_
      simp (disch := omega) only [go_sem, ↓reduceIte, za, zb, zc, zd, ze, zf, zg, zh, zi, zj, zk, zl, zm, zn, zo, ho, dec_t, dec_f, ltI, leI, leN, le63, le40, le0, wrap64_id, wrapu64_id, wrap8_id]
      refine tr_nil (hK _ _ _ ?_)
      clear hK K hfr
      refine block_n ?_
      refine then_n ?_
      refine awp_region_e (fun _ => false) (by rw [hB]; rfl) fun K hK base hbase hfr => ?_
      refine tr_run ?_
      simp (disch := omega) only [go_sem, ↓reduceIte, za, zb, zc, zd, ze, zf, zg, zh, zi, zj, zk, zl, zm, zn, zo, dec_t, dec_f, ltI, leI, leN, le63, le40, le0, wrap64_id, wrapu64_id, wrap8_id]
      refine tr_nil (hK _ _ _ ?_)
      clear hK K hbase hfr base
      refine then_n ⟨(i + 1, out ++ [(rPeer rr).1], base + 3, (rPeer rr).2), ?_, ?_, ?_, ?_, ⟨fun _ _ h => h, fun _ h => h⟩⟩
      · refine ⟨?_, ?_, ?_, Nat.le_trans hbase (Nat.le_add_right _ _)⟩
        · show rlGo rPeer ((rInt 64 r).1.toNat - (i + 1)) (out ++ [(rPeer rr).1]) (rPeer rr).2 = _
          rw [← hG, show (rInt 64 r).1.toNat - i = ((rInt 64 r).1.toNat - (i + 1)) + 1 by omega, rlGo, if_neg (by rw [htn]; decide)]
        · show (out ++ [(rPeer rr).1]).length ≤ i + 1; simp only [List.length_append, List.length_cons, List.length_nil]; omega
        · show i + 1 ≤ _; omega
      · show (rInt 64 r).1.toNat - (i + 1) < (rInt 64 r).1.toNat - i; omega
      · exact Env.subW_one rfl <| Env.subW_one rfl <| Env.subW_one (by rw [map_snoc]; rfl) <| Env.subW_one rfl <| Env.subW_nil _
      · exact Boxes.subW_nil _
    · try simp only [yb, yc, yd, ye, yf, yg, yh, yi, yj, yk, yl, ym, yn, yo] at h6
      have htn : rr.torn = true := by cases hh : rr.torn <;> simp_all
      refine awp_exit ?_
      refine then_x ?_
      refine then_x ?_
      refine block_x ?_
      refine then_n ?_
      have hres : rdL0 rPeer 64 r = (out, rr) := by rw [← hG, rlGo_torn _ _ _ htn]
      refine awp_seq ?_
      refine awp_region_k (fun _ => false) (by rw [hB]; rfl) fun K hK base hbase hfr => ?_
      rcases q7 : rr.torn with _ | _
      · skip
        refine tr_run ?_
        simp (disch := omega) only [go_sem, ↓reduceIte, za, zb, zc, zd, ze, zf, zg, zh, zi, zj, zk, zl, zm, zn, zo, q7, dec_t, dec_f, ltI, leI, leN, le63, le40, le0, wrap64_id, wrapu64_id, wrap8_id]
        refine tr_pc (by simp only [go_sem, ↓reduceIte, za, zb, zc, zd, ze, zf, zg, zh, zi, zj, zk, zl, zm, zn, zo, q7]) (by simp only [go_sem, ↓reduceIte, za, zb, zc, zd, ze, zf, zg, zh, zi, zj, zk, zl, zm, zn, zo, q7] <;> rfl) (c113 out (.tok t)) ?_
        simp (disch := omega) only [go_sem, ↓reduceIte, za, zb, zc, zd, ze, zf, zg, zh, zi, zj, zk, zl, zm, zn, zo, q7, dec_t, dec_f, ltI, leI, leN, le63, le40, le0, wrap64_id, wrapu64_id, wrap8_id]
        refine tr_nil (hK _ _ _ ?_)
        clear hK K hbase hfr base
        try simp only [yb, yc, yd, ye, yf, yg, yh, yi, yj, yk, yl, ym, yn, yo] at q7
        refine awp_cond (rfl) (fun h8 => ?_) (fun h8 => ?_)
        · try simp only [yb, yc, yd, ye, yf, yg, yh, yi, yj, yk, yl, ym, yn, yo] at h8
          refine awp_region_k (fun _ => false) (by rw [hB]; rfl) fun K hK base hbase hfr => ?_
          refine tr_run ?_
          simp (disch := omega) only [go_sem, ↓reduceIte, za, zb, zc, zd, ze, zf, zg, zh, zi, zj, zk, zl, zm, zn, zo, dec_t, dec_f, ltI, leI, leN, le63, le40, le0, wrap64_id, wrapu64_id, wrap8_id]
          refine tr_nil (hK _ _ _ ?_)
          clear hK K hbase hfr base
          refine awp_region_k (fun _ => false) (by rw [hB]; rfl) fun K hK base hbase hfr => ?_
          refine tr_run ?_
          simp (disch := omega) only [go_sem, ↓reduceIte, za, zb, zc, zd, ze, zf, zg, zh, zi, zj, zk, zl, zm, zn, zo, dec_t, dec_f, ltI, leI, leN, le63, le40, le0, wrap64_id, wrapu64_id, wrap8_id]
          refine tr_nil (hK _ _ _ ?_)
          clear hK K hbase hfr base
          refine awp_ret ?_
          refine then_r ?_
          have e : pCheck out = false := by cases hh : pCheck out <;> simp_all
          rw [rdL_bad (.inr (by rw [hres]; exact e)), hres]
          exact ⟨_, rfl, (.one (.one (.no _ _))), fun _ _ h => h, fun _ h => List.mem_cons_of_mem _ h⟩
        · try simp only [yb, yc, yd, ye, yf, yg, yh, yi, yj, yk, yl, ym, yn, yo] at h8
          refine awp_skip ?_
          refine then_n ?_
          refine awp_region_k (fun _ => false) (by rw [hB]; rfl) fun K hK base hbase hfr => ?_
          refine tr_run ?_
          simp (disch := omega) only [go_sem, ↓reduceIte, za, zb, zc, zd, ze, zf, zg, zh, zi, zj, zk, zl, zm, zn, zo, dec_t, dec_f, ltI, leI, leN, le63, le40, le0, wrap64_id, wrapu64_id, wrap8_id]
          refine tr_nil (hK _ _ _ ?_)
          clear hK K hbase hfr base
          refine awp_ret ?_
          have e : pCheck out = true := by cases hh : pCheck out <;> simp_all
          have e2 : rr.torn = false := by assumption
          rw [rdL_ok (by rw [hres]; exact e2) (by rw [hres]; exact e), hres, show rdV (out, rr).2 = [.str rr.s, .bool false] by rw [← e2]; rfl]
          exact ⟨_, rfl, (.one (.one (.no _ _))), fun _ _ h => h, fun _ h => List.mem_cons_of_mem _ h⟩
      · skip
        refine tr_run ?_
        simp (disch := omega) only [go_sem, ↓reduceIte, za, zb, zc, zd, ze, zf, zg, zh, zi, zj, zk, zl, zm, zn, zo, q7, dec_t, dec_f, ltI, leI, leN, le63, le40, le0, wrap64_id, wrapu64_id, wrap8_id]
        refine tr_nil (hK _ _ _ ?_)
        clear hK K hbase hfr base
        try simp only [yb, yc, yd, ye, yf, yg, yh, yi, yj, yk, yl, ym, yn, yo] at q7
        refine awp_cond (rfl) (fun h9 => ?_) (fun h9 => by cases h9)
        refine awp_region_k (fun _ => false) (by rw [hB]; rfl) fun K hK base hbase hfr => ?_
        refine tr_run ?_
        simp (disch := omega) only [go_sem, ↓reduceIte, za, zb, zc, zd, ze, zf, zg, zh, zi, zj, zk, zl, zm, zn, zo, dec_t, dec_f, ltI, leI, leN, le63, le40, le0, wrap64_id, wrapu64_id, wrap8_id]
        refine tr_nil (hK _ _ _ ?_)
        clear hK K hbase hfr base
        refine awp_region_k (fun _ => false) (by rw [hB]; rfl) fun K hK base hbase hfr => ?_
        refine tr_run ?_
        simp (disch := omega) only [go_sem, ↓reduceIte, za, zb, zc, zd, ze, zf, zg, zh, zi, zj, zk, zl, zm, zn, zo, dec_t, dec_f, ltI, leI, leN, le63, le40, le0, wrap64_id, wrapu64_id, wrap8_id]
        refine tr_nil (hK _ _ _ ?_)
        clear hK K hbase hfr base
        refine awp_ret ?_
        refine then_r ?_
        rw [rdL_bad (.inl (by rw [hres]; assumption)), hres]
        exact ⟨_, rfl, (.one (.one (.no _ _))), fun _ _ h => h, fun _ h => List.mem_cons_of_mem _ h⟩
end Go.Am
