/- What functions of this program compute, a part: see the main text. No conditions. -/
import Derived.Test.YtanpeaakmdffcaaGreatW22
import Derived.Test.YtanpeaakmdffcaaGreatW21
set_option linter.all false
set_option maxRecDepth 100000
namespace Go.Am
open Go
open Nat renaming reduceEqDiff → za, reduceAdd → zb, reduceMul → zc, reducePow → zd, reduceLeDiff → ze, reduceSub → zf, reduceBEq → zg, reduceBNe → zh, reduceDiv → zi, reduceMod → zj
open Int renaming reduceLT → zk, reduceLE → zl, reduceEq → zm, reduceNe → zn, reduceToNat → zo

def pLeft (p : Peer) : Bool := p.st == 2
def pLater (a b : Peer) : Peer := if pLeft a = pLeft b then (if b.inc < a.inc ∨ (a.inc = b.inc ∧ b.st ≤ a.st) then a else b) else if pLeft a = true then a else b
theorem c163 (a b : Peer) : PCalls Go.Proofs.Tryz.prog 163 [peerV a, peerV b] (peerV (pLater a b)) := by
  refine pcalls_of_awp Go.Proofs.Tryz.func163 rfl (by decide) (Nat.le_of_ble_eq_true rfl) ?_
  intro B σ hB ho hob
  refine awp_region_k (fun _ => false) (by rw [hB]; rfl) fun K hK base hbase hfr => ?_
  refine tr_run ?_
  simp (disch := omega) only [go_sem, ↓reduceIte, za, zb, zc, zd, ze, zf, zg, zh, zi, zj, zk, zl, zm, zn, zo, dec_t, dec_f, ltI, leI, leN, le63, le40, le0, wrap64_id, wrapu64_id, wrap8_id]
  refine tr_nil (hK _ _ _ ?_)
  clear hK K hbase hfr base
  refine awp_region_k (fun _ => false) (by rw [hB]; rfl) fun K hK base hbase hfr => ?_
  rcases q1 : (a.st == 2) with _ | _
  · skip
    refine tr_run ?_
    simp (disch := omega) only [go_sem, ↓reduceIte, za, zb, zc, zd, ze, zf, zg, zh, zi, zj, zk, zl, zm, zn, zo, q1, dec_t, dec_f, ltI, leI, leN, le63, le40, le0, wrap64_id, wrapu64_id, wrap8_id]
    refine tr_nil (hK _ _ _ ?_)
    clear hK K hbase hfr base
    try simp only [yb, yc, yd, ye, yf, yg, yh, yi, yj, yk, yl, ym, yn, yo] at q1
    refine awp_region_k (fun _ => false) (by rw [hB]; rfl) fun K hK base hbase hfr => ?_
    rcases q2 : (b.st == 2) with _ | _
    · skip
      refine tr_run ?_
      simp (disch := omega) only [go_sem, ↓reduceIte, za, zb, zc, zd, ze, zf, zg, zh, zi, zj, zk, zl, zm, zn, zo, q2, dec_t, dec_f, ltI, leI, leN, le63, le40, le0, wrap64_id, wrapu64_id, wrap8_id]
      refine tr_nil (hK _ _ _ ?_)
      clear hK K hbase hfr base
      try simp only [yb, yc, yd, ye, yf, yg, yh, yi, yj, yk, yl, ym, yn, yo] at q2
      refine awp_seq ?_
      refine awp_region_k (fun _ => false) (by rw [hB]; rfl) fun K hK base hbase hfr => ?_
      refine tr_run ?_
      simp (disch := omega) only [go_sem, ↓reduceIte, za, zb, zc, zd, ze, zf, zg, zh, zi, zj, zk, zl, zm, zn, zo, dec_t, dec_f, ltI, leI, leN, le63, le40, le0, wrap64_id, wrapu64_id, wrap8_id]
      refine tr_nil (hK _ _ _ ?_)
      clear hK K hbase hfr base
      refine awp_cond (rfl) (fun h3 => by cases h3) (fun h3 => ?_)
      refine awp_skip ?_
      refine then_n ?_
      refine awp_seq ?_
      refine awp_region_k (fun _ => false) (by rw [hB]; rfl) fun K hK base hbase hfr => ?_
      rcases q4 : decide (b.inc < a.inc) with _ | _
      · skip
        rcases q5 : (a.inc == b.inc) with _ | _
        · skip
          refine tr_run ?_
          simp (disch := omega) only [go_sem, ↓reduceIte, za, zb, zc, zd, ze, zf, zg, zh, zi, zj, zk, zl, zm, zn, zo, q4, q5, dec_t, dec_f, ltI, leI, leN, le63, le40, le0, wrap64_id, wrapu64_id, wrap8_id]
          refine tr_nil (hK _ _ _ ?_)
          clear hK K hbase hfr base
          try simp only [yb, yc, yd, ye, yf, yg, yh, yi, yj, yk, yl, ym, yn, yo] at q4
          try simp only [yb, yc, yd, ye, yf, yg, yh, yi, yj, yk, yl, ym, yn, yo] at q5
          refine awp_cond (rfl) (fun h6 => by cases h6) (fun h6 => ?_)
          refine awp_skip ?_
          refine then_n ?_
          refine awp_region_k (fun _ => false) (by rw [hB]; rfl) fun K hK base hbase hfr => ?_
          refine tr_run ?_
          simp (disch := omega) only [go_sem, ↓reduceIte, za, zb, zc, zd, ze, zf, zg, zh, zi, zj, zk, zl, zm, zn, zo, dec_t, dec_f, ltI, leI, leN, le63, le40, le0, wrap64_id, wrapu64_id, wrap8_id]
          refine tr_nil (hK _ _ _ ?_)
          clear hK K hbase hfr base
          refine awp_ret ?_
          refine ⟨_, rfl, ?_, fun _ _ h => h, fun _ h => h⟩
          have e : pLater a b = b := by rw [pLater, if_pos (by unfold pLeft; first | (simp [*]; done) | rw [ibeq_f q1, ibeq_f q2]), if_neg (by omega)]
          rw [e]; exact VW.refl _
        · skip
          refine tr_run ?_
          simp (disch := omega) only [go_sem, ↓reduceIte, za, zb, zc, zd, ze, zf, zg, zh, zi, zj, zk, zl, zm, zn, zo, q4, q5, dec_t, dec_f, ltI, leI, leN, le63, le40, le0, wrap64_id, wrapu64_id, wrap8_id]
          refine tr_nil (hK _ _ _ ?_)
          clear hK K hbase hfr base
          try simp only [yb, yc, yd, ye, yf, yg, yh, yi, yj, yk, yl, ym, yn, yo] at q4
          try simp only [yb, yc, yd, ye, yf, yg, yh, yi, yj, yk, yl, ym, yn, yo] at q5
          refine awp_cond (rfl) (fun h7 => ?_) (fun h7 => ?_)
          · try simp only [yb, yc, yd, ye, yf, yg, yh, yi, yj, yk, yl, ym, yn, yo] at h7
            refine awp_region_k (fun _ => false) (by rw [hB]; rfl) fun K hK base hbase hfr => ?_
            refine tr_run ?_
            simp (disch := omega) only [go_sem, ↓reduceIte, za, zb, zc, zd, ze, zf, zg, zh, zi, zj, zk, zl, zm, zn, zo, dec_t, dec_f, ltI, leI, leN, le63, le40, le0, wrap64_id, wrapu64_id, wrap8_id]
            refine tr_nil (hK _ _ _ ?_)
            clear hK K hbase hfr base
            refine awp_ret ?_
            refine then_r ?_
            refine ⟨_, rfl, ?_, fun _ _ h => h, fun _ h => h⟩
            have e : pLater a b = a := by rw [pLater, if_pos (by unfold pLeft; first | (simp [*]; done) | rw [ibeq_f q1, ibeq_f q2]), if_pos (by omega)]
            rw [e]; exact VW.refl _
          · try simp only [yb, yc, yd, ye, yf, yg, yh, yi, yj, yk, yl, ym, yn, yo] at h7
            refine awp_skip ?_
            refine then_n ?_
            refine awp_region_k (fun _ => false) (by rw [hB]; rfl) fun K hK base hbase hfr => ?_
            refine tr_run ?_
            simp (disch := omega) only [go_sem, ↓reduceIte, za, zb, zc, zd, ze, zf, zg, zh, zi, zj, zk, zl, zm, zn, zo, dec_t, dec_f, ltI, leI, leN, le63, le40, le0, wrap64_id, wrapu64_id, wrap8_id]
            refine tr_nil (hK _ _ _ ?_)
            clear hK K hbase hfr base
            refine awp_ret ?_
            refine ⟨_, rfl, ?_, fun _ _ h => h, fun _ h => h⟩
            have e : pLater a b = b := by rw [pLater, if_pos (by unfold pLeft; first | (simp [*]; done) | rw [ibeq_f q1, ibeq_f q2]), if_neg (by omega)]
            rw [e]; exact VW.refl _
      · skip
        refine tr_run ?_
        simp (disch := omega) only [go_sem, ↓reduceIte, za, zb, zc, zd, ze, zf, zg, zh, zi, zj, zk, zl, zm, zn, zo, q4, dec_t, dec_f, ltI, leI, leN, le63, le40, le0, wrap64_id, wrapu64_id, wrap8_id]
        refine tr_nil (hK _ _ _ ?_)
        clear hK K hbase hfr base
        try simp only [yb, yc, yd, ye, yf, yg, yh, yi, yj, yk, yl, ym, yn, yo] at q4
        refine awp_cond (rfl) (fun h8 => ?_) (fun h8 => by cases h8)
        refine awp_region_k (fun _ => false) (by rw [hB]; rfl) fun K hK base hbase hfr => ?_
        refine tr_run ?_
        simp (disch := omega) only [go_sem, ↓reduceIte, za, zb, zc, zd, ze, zf, zg, zh, zi, zj, zk, zl, zm, zn, zo, dec_t, dec_f, ltI, leI, leN, le63, le40, le0, wrap64_id, wrapu64_id, wrap8_id]
        refine tr_nil (hK _ _ _ ?_)
        clear hK K hbase hfr base
        refine awp_ret ?_
        refine then_r ?_
        refine ⟨_, rfl, ?_, fun _ _ h => h, fun _ h => h⟩
        have e : pLater a b = a := by rw [pLater, if_pos (by unfold pLeft; first | (simp [*]; done) | rw [ibeq_f q1, ibeq_f q2]), if_pos (by omega)]
        rw [e]; exact VW.refl _
    · skip
      refine tr_run ?_
      simp (disch := omega) only [go_sem, ↓reduceIte, za, zb, zc, zd, ze, zf, zg, zh, zi, zj, zk, zl, zm, zn, zo, q2, dec_t, dec_f, ltI, leI, leN, le63, le40, le0, wrap64_id, wrapu64_id, wrap8_id]
      refine tr_nil (hK _ _ _ ?_)
      clear hK K hbase hfr base
      try simp only [yb, yc, yd, ye, yf, yg, yh, yi, yj, yk, yl, ym, yn, yo] at q2
      refine awp_seq ?_
      refine awp_region_k (fun _ => false) (by rw [hB]; rfl) fun K hK base hbase hfr => ?_
      refine tr_run ?_
      simp (disch := omega) only [go_sem, ↓reduceIte, za, zb, zc, zd, ze, zf, zg, zh, zi, zj, zk, zl, zm, zn, zo, dec_t, dec_f, ltI, leI, leN, le63, le40, le0, wrap64_id, wrapu64_id, wrap8_id]
      refine tr_nil (hK _ _ _ ?_)
      clear hK K hbase hfr base
      refine awp_cond (rfl) (fun h9 => ?_) (fun h9 => by cases h9)
      refine awp_seq ?_
      refine awp_region_k (fun _ => false) (by rw [hB]; rfl) fun K hK base hbase hfr => ?_
      refine tr_run ?_
      simp (disch := omega) only [go_sem, ↓reduceIte, za, zb, zc, zd, ze, zf, zg, zh, zi, zj, zk, zl, zm, zn, zo, dec_t, dec_f, ltI, leI, leN, le63, le40, le0, wrap64_id, wrapu64_id, wrap8_id]
      refine tr_nil (hK _ _ _ ?_)
      clear hK K hbase hfr base
      refine awp_cond (rfl) (fun h10 => by cases h10) (fun h10 => ?_)
      refine awp_skip ?_
      refine then_n ?_
      refine awp_region_k (fun _ => false) (by rw [hB]; rfl) fun K hK base hbase hfr => ?_
      refine tr_run ?_
      simp (disch := omega) only [go_sem, ↓reduceIte, za, zb, zc, zd, ze, zf, zg, zh, zi, zj, zk, zl, zm, zn, zo, dec_t, dec_f, ltI, leI, leN, le63, le40, le0, wrap64_id, wrapu64_id, wrap8_id]
      refine tr_nil (hK _ _ _ ?_)
      clear hK K hbase hfr base
      refine awp_ret ?_
      refine then_r ?_
      refine ⟨_, rfl, ?_, fun _ _ h => h, fun _ h => h⟩
      have e : pLater a b = b := by unfold pLater pLeft; simp_all
      rw [e]; exact VW.refl _
  · skip
    refine tr_run ?_
    simp (disch := omega) only [go_sem, ↓reduceIte, za, zb, zc, zd, ze, zf, zg, zh, zi, zj, zk, zl, zm, zn, zo, q1, dec_t, dec_f, ltI, leI, leN, le63, le40, le0, wrap64_id, wrapu64_id, wrap8_id]
    refine tr_nil (hK _ _ _ ?_)
    clear hK K hbase hfr base
    try simp only [yb, yc, yd, ye, yf, yg, yh, yi, yj, yk, yl, ym, yn, yo] at q1
    refine awp_region_k (fun _ => false) (by rw [hB]; rfl) fun K hK base hbase hfr => ?_
    rcases q11 : (b.st == 2) with _ | _
    · skip
      refine tr_run ?_
      simp (disch := omega) only [go_sem, ↓reduceIte, za, zb, zc, zd, ze, zf, zg, zh, zi, zj, zk, zl, zm, zn, zo, q11, dec_t, dec_f, ltI, leI, leN, le63, le40, le0, wrap64_id, wrapu64_id, wrap8_id]
      refine tr_nil (hK _ _ _ ?_)
      clear hK K hbase hfr base
      try simp only [yb, yc, yd, ye, yf, yg, yh, yi, yj, yk, yl, ym, yn, yo] at q11
      refine awp_seq ?_
      refine awp_region_k (fun _ => false) (by rw [hB]; rfl) fun K hK base hbase hfr => ?_
      refine tr_run ?_
      simp (disch := omega) only [go_sem, ↓reduceIte, za, zb, zc, zd, ze, zf, zg, zh, zi, zj, zk, zl, zm, zn, zo, dec_t, dec_f, ltI, leI, leN, le63, le40, le0, wrap64_id, wrapu64_id, wrap8_id]
      refine tr_nil (hK _ _ _ ?_)
      clear hK K hbase hfr base
      refine awp_cond (rfl) (fun h12 => ?_) (fun h12 => by cases h12)
      refine awp_seq ?_
      refine awp_region_k (fun _ => false) (by rw [hB]; rfl) fun K hK base hbase hfr => ?_
      refine tr_run ?_
      simp (disch := omega) only [go_sem, ↓reduceIte, za, zb, zc, zd, ze, zf, zg, zh, zi, zj, zk, zl, zm, zn, zo, dec_t, dec_f, ltI, leI, leN, le63, le40, le0, wrap64_id, wrapu64_id, wrap8_id]
      refine tr_nil (hK _ _ _ ?_)
      clear hK K hbase hfr base
      refine awp_cond (rfl) (fun h13 => ?_) (fun h13 => by cases h13)
      refine awp_region_k (fun _ => false) (by rw [hB]; rfl) fun K hK base hbase hfr => ?_
      refine tr_run ?_
      simp (disch := omega) only [go_sem, ↓reduceIte, za, zb, zc, zd, ze, zf, zg, zh, zi, zj, zk, zl, zm, zn, zo, dec_t, dec_f, ltI, leI, leN, le63, le40, le0, wrap64_id, wrapu64_id, wrap8_id]
      refine tr_nil (hK _ _ _ ?_)
      clear hK K hbase hfr base
      refine awp_ret ?_
      refine then_r ?_
      refine then_r ?_
      refine ⟨_, rfl, ?_, fun _ _ h => h, fun _ h => h⟩
      have e : pLater a b = a := by unfold pLater pLeft; simp_all
      rw [e]; exact VW.refl _
    · skip
      refine tr_run ?_
      simp (disch := omega) only [go_sem, ↓reduceIte, za, zb, zc, zd, ze, zf, zg, zh, zi, zj, zk, zl, zm, zn, zo, q11, dec_t, dec_f, ltI, leI, leN, le63, le40, le0, wrap64_id, wrapu64_id, wrap8_id]
      refine tr_nil (hK _ _ _ ?_)
      clear hK K hbase hfr base
      try simp only [yb, yc, yd, ye, yf, yg, yh, yi, yj, yk, yl, ym, yn, yo] at q11
      refine awp_seq ?_
      refine awp_region_k (fun _ => false) (by rw [hB]; rfl) fun K hK base hbase hfr => ?_
      refine tr_run ?_
      simp (disch := omega) only [go_sem, ↓reduceIte, za, zb, zc, zd, ze, zf, zg, zh, zi, zj, zk, zl, zm, zn, zo, dec_t, dec_f, ltI, leI, leN, le63, le40, le0, wrap64_id, wrapu64_id, wrap8_id]
      refine tr_nil (hK _ _ _ ?_)
      clear hK K hbase hfr base
      refine awp_cond (rfl) (fun h14 => by cases h14) (fun h14 => ?_)
      refine awp_skip ?_
      refine then_n ?_
      refine awp_seq ?_
      refine awp_region_k (fun _ => false) (by rw [hB]; rfl) fun K hK base hbase hfr => ?_
      rcases q15 : decide (b.inc < a.inc) with _ | _
      · skip
        rcases q16 : (a.inc == b.inc) with _ | _
        · skip
          refine tr_run ?_
          simp (disch := omega) only [go_sem, ↓reduceIte, za, zb, zc, zd, ze, zf, zg, zh, zi, zj, zk, zl, zm, zn, zo, q15, q16, dec_t, dec_f, ltI, leI, leN, le63, le40, le0, wrap64_id, wrapu64_id, wrap8_id]
          refine tr_nil (hK _ _ _ ?_)
          clear hK K hbase hfr base
          try simp only [yb, yc, yd, ye, yf, yg, yh, yi, yj, yk, yl, ym, yn, yo] at q15
          try simp only [yb, yc, yd, ye, yf, yg, yh, yi, yj, yk, yl, ym, yn, yo] at q16
          refine awp_cond (rfl) (fun h17 => by cases h17) (fun h17 => ?_)
          refine awp_skip ?_
          refine then_n ?_
          refine awp_region_k (fun _ => false) (by rw [hB]; rfl) fun K hK base hbase hfr => ?_
          refine tr_run ?_
          simp (disch := omega) only [go_sem, ↓reduceIte, za, zb, zc, zd, ze, zf, zg, zh, zi, zj, zk, zl, zm, zn, zo, dec_t, dec_f, ltI, leI, leN, le63, le40, le0, wrap64_id, wrapu64_id, wrap8_id]
          refine tr_nil (hK _ _ _ ?_)
          clear hK K hbase hfr base
          refine awp_ret ?_
          refine ⟨_, rfl, ?_, fun _ _ h => h, fun _ h => h⟩
          have e : pLater a b = b := by rw [pLater, if_pos (by unfold pLeft; first | (simp [*]; done) | rw [ibeq_f q1, ibeq_f q2]), if_neg (by omega)]
          rw [e]; exact VW.refl _
        · skip
          refine tr_run ?_
          simp (disch := omega) only [go_sem, ↓reduceIte, za, zb, zc, zd, ze, zf, zg, zh, zi, zj, zk, zl, zm, zn, zo, q15, q16, dec_t, dec_f, ltI, leI, leN, le63, le40, le0, wrap64_id, wrapu64_id, wrap8_id]
          refine tr_nil (hK _ _ _ ?_)
          clear hK K hbase hfr base
          try simp only [yb, yc, yd, ye, yf, yg, yh, yi, yj, yk, yl, ym, yn, yo] at q15
          try simp only [yb, yc, yd, ye, yf, yg, yh, yi, yj, yk, yl, ym, yn, yo] at q16
          refine awp_cond (rfl) (fun h18 => ?_) (fun h18 => by cases h18)
          refine awp_region_k (fun _ => false) (by rw [hB]; rfl) fun K hK base hbase hfr => ?_
          refine tr_run ?_
          simp (disch := omega) only [go_sem, ↓reduceIte, za, zb, zc, zd, ze, zf, zg, zh, zi, zj, zk, zl, zm, zn, zo, dec_t, dec_f, ltI, leI, leN, le63, le40, le0, wrap64_id, wrapu64_id, wrap8_id]
          refine tr_nil (hK _ _ _ ?_)
          clear hK K hbase hfr base
          refine awp_ret ?_
          refine then_r ?_
          refine ⟨_, rfl, ?_, fun _ _ h => h, fun _ h => h⟩
          have e : pLater a b = a := by rw [pLater, if_pos (by unfold pLeft; first | (simp [*]; done) | rw [ibeq_f q1, ibeq_f q2]), if_pos (by omega)]
          rw [e]; exact VW.refl _
      · skip
        refine tr_run ?_
        simp (disch := omega) only [go_sem, ↓reduceIte, za, zb, zc, zd, ze, zf, zg, zh, zi, zj, zk, zl, zm, zn, zo, q15, dec_t, dec_f, ltI, leI, leN, le63, le40, le0, wrap64_id, wrapu64_id, wrap8_id]
        refine tr_nil (hK _ _ _ ?_)
        clear hK K hbase hfr base
        try simp only [yb, yc, yd, ye, yf, yg, yh, yi, yj, yk, yl, ym, yn, yo] at q15
        refine awp_cond (rfl) (fun h19 => ?_) (fun h19 => by cases h19)
        refine awp_region_k (fun _ => false) (by rw [hB]; rfl) fun K hK base hbase hfr => ?_
        refine tr_run ?_
        simp (disch := omega) only [go_sem, ↓reduceIte, za, zb, zc, zd, ze, zf, zg, zh, zi, zj, zk, zl, zm, zn, zo, dec_t, dec_f, ltI, leI, leN, le63, le40, le0, wrap64_id, wrapu64_id, wrap8_id]
        refine tr_nil (hK _ _ _ ?_)
        clear hK K hbase hfr base
        refine awp_ret ?_
        refine then_r ?_
        refine ⟨_, rfl, ?_, fun _ _ h => h, fun _ h => h⟩
        have e : pLater a b = a := by rw [pLater, if_pos (by unfold pLeft; first | (simp [*]; done) | rw [ibeq_f q1, ibeq_f q2]), if_pos (by omega)]
        rw [e]; exact VW.refl _

def pGo (p : Peer) : Bool → List Peer → List Peer
  | d, [] => if d = true then [] else [p]
  | d, x :: l => if x.id = p.id then pLater x p :: pGo p true l else if d = false ∧ p.id < x.id then p :: x :: pGo p true l else x :: pGo p d l
def pPut (l : List Peer) (p : Peer) : List Peer := pGo p false l
theorem pGo_len (p : Peer) : ∀ (d : Bool) (l : List Peer), (pGo p d l).length ≤ l.length + 1 ∧ (d = true → (pGo p d l).length ≤ l.length)
  | true, [] => by simp [pGo]
  | false, [] => by simp [pGo]
  | d, x :: l => by
    have h1 := pGo_len p true l
    have h2 := pGo_len p d l
    rw [pGo]
    split
    · simp only [List.length_cons]; exact ⟨by omega, fun _ => by have := h1.2 rfl; omega⟩
    · split
      · rename_i h; simp only [List.length_cons]; exact ⟨by have := h1.2 rfl; omega, fun hd => by rw [hd] at h; cases h.1⟩
      · simp only [List.length_cons]; exact ⟨by omega, fun hd => by have := h2.2 hd; omega⟩
theorem pPut_len (l : List Peer) (p : Peer) : (pPut l p).length ≤ l.length + 1 := (pGo_len p false l).1
theorem c114 (l : List Peer) (tg : Tag) (p : Peer) (hl : l.length ≤ 1000000) : PCalls Go.Proofs.Tryz.prog 114 [.list (l.map peerV) tg, peerV p] (.list ((pPut l p).map peerV) .no) := by
  refine pcalls_of_awp Go.Proofs.Tryz.func114 rfl (by decide) (Nat.le_of_ble_eq_true rfl) ?_
  intro B σ hB ho hob
  refine awp_region_k (fun _ => false) (by rw [hB]; rfl) fun K hK base hbase hfr => ?_
  refine tr_run ?_
  simp (disch := omega) only [go_sem, ↓reduceIte, za, zb, zc, zd, ze, zf, zg, zh, zi, zj, zk, zl, zm, zn, zo, dec_t, dec_f, ltI, leI, leN, le63, le40, le0, wrap64_id, wrapu64_id, wrap8_id]
  refine tr_nil (hK _ _ _ ?_)
  clear hK K hbase hfr base
  refine awp_region_k (fun _ => false) (by rw [hB]; rfl) fun K hK base hbase hfr => ?_
  refine tr_run ?_
  simp (disch := omega) only [go_sem, ↓reduceIte, za, zb, zc, zd, ze, zf, zg, zh, zi, zj, zk, zl, zm, zn, zo, dec_t, dec_f, ltI, leI, leN, le63, le40, le0, wrap64_id, wrapu64_id, wrap8_id]
  refine tr_nil (hK _ _ _ ?_)
  clear hK K hbase hfr base
  refine awp_region_k (fun _ => false) (by rw [hB]; rfl) fun K hK base hbase hfr => ?_
  refine tr_run ?_
  simp (disch := omega) only [go_sem, ↓reduceIte, za, zb, zc, zd, ze, zf, zg, zh, zi, zj, zk, zl, zm, zn, zo, dec_t, dec_f, ltI, leI, leN, le63, le40, le0, wrap64_id, wrapu64_id, wrap8_id]
  refine tr_nil (hK _ _ _ ?_)
  clear hK K hbase hfr base
  refine awp_seq ?_
  refine awp_region_k (fun _ => false) (by rw [hB]; rfl) fun K hK base hbase hfr => ?_
  refine tr_run ?_
  simp (disch := omega) only [go_sem, ↓reduceIte, za, zb, zc, zd, ze, zf, zg, zh, zi, zj, zk, zl, zm, zn, zo, dec_t, dec_f, ltI, leI, leN, le63, le40, le0, wrap64_id, wrapu64_id, wrap8_id]
  refine tr_nil (hK _ _ _ ?_)
  clear hK K hbase hfr base
  refine awp_block ?_
  refine awp_tok 5 rfl fun t0 ht0 => ?_
  refine awp_loop_w (α := Nat × Bool × List Peer × Nat) (fun x => x.2.2.1 ++ pGo p x.2.1 (l.drop x.1) = pPut l p ∧ x.2.2.1.length ≤ 2 * x.1 ∧ B.g.nt ≤ x.2.2.2) (fun x => [(0, .list (l.map peerV) tg), (3, .lref 3 0), (5, .list (x.2.2.1.map peerV) (.tok x.2.2.2)), (6, .bool x.2.1), (7, .int .i64 x.1)]) (fun x => [(3, [.int .i64 p.id, .int .i64 p.inc, .int .i64 p.st])]) (fun x => { σ with live := x.2.2.2 :: σ.live }) (fun x => l.length - x.1) (0, false, [], t0) ?_ ?_ ?_ (Sh.sub_refl _) ?_
  · exact ⟨rfl, Nat.le_refl _, ht0⟩
  · exact Env.subW_one rfl <| Env.subW_one rfl <| Env.subW_one rfl <| Env.subW_one rfl <| Env.subW_one rfl <| Env.subW_nil _
  · exact Boxes.subW_one rfl <| Boxes.subW_nil _
  rintro ⟨i, done, out, t⟩ ⟨h0, ho1, ht⟩
  try dsimp only at h0 ho1 ht
  refine awp_seq ?_
  refine awp_region_k (fun _ => false) (by rw [hB]; rfl) fun K hK base hbase hfr => ?_
  refine tr_run ?_
  simp (disch := omega) only [go_sem, ↓reduceIte, za, zb, zc, zd, ze, zf, zg, zh, zi, zj, zk, zl, zm, zn, zo, dec_t, dec_f, ltI, leI, leN, le63, le40, le0, wrap64_id, wrapu64_id, wrap8_id]
  refine tr_nil (hK _ _ _ ?_)
  clear hK K hbase hfr base
  refine awp_cond (rfl) (fun h1 => ?_) (fun h1 => ?_)
  · try simp only [yb, yc, yd, ye, yf, yg, yh, yi, yj, yk, yl, ym, yn, yo] at h1
    obtain ⟨x, hx, hm, hi⟩ := get_of_lt h1
    refine awp_skip ?_
    refine then_n ?_
    refine awp_seq ?_
    refine awp_block ?_
    refine awp_seq ?_
    refine awp_drawn_k (fun _ => false) (fun _ => false) (by kernel_rfl) (by decide) (by rw [hB]; rfl) fun K hK base hbase hfr => ?_
    refine trd_run ?_
    simp (disch := omega) only [go_sem, ↓reduceIte, za, zb, zc, zd, ze, zf, zg, zh, zi, zj, zk, zl, zm, zn, zo, hx, dec_t, dec_f, ltI, leI, leN, le63, le40, le0, wrap64_id, wrapu64_id, wrap8_id]
    refine trd_nil (hK _ _ _ ?_)
    clear hK K hbase hfr base
    refine awp_cond (rfl) (fun h2 => ?_) (fun h2 => ?_)
    · try simp only [yb, yc, yd, ye, yf, yg, yh, yi, yj, yk, yl, ym, yn, yo] at h2
      refine awp_drawn_k (fun f => f == 163) (fun _ => false) (by kernel_rfl) (by decide) (by rw [hB]; rfl) fun K hK base hbase hfr => ?_
      refine trd_run ?_
      simp (disch := omega) only [go_sem, ↓reduceIte, za, zb, zc, zd, ze, zf, zg, zh, zi, zj, zk, zl, zm, zn, zo, hx, ho, dec_t, dec_f, ltI, leI, leN, le63, le40, le0, wrap64_id, wrapu64_id, wrap8_id]
      refine trd_pc (by kernel_rfl) (by rfl) (by simp only [go_sem, ↓reduceIte, za, zb, zc, zd, ze, zf, zg, zh, zi, zj, zk, zl, zm, zn, zo, hx, ho] <;> rfl) (c163 x p) ?_
      simp (disch := omega) only [go_sem, ↓reduceIte, za, zb, zc, zd, ze, zf, zg, zh, zi, zj, zk, zl, zm, zn, zo, hx, ho, dec_t, dec_f, ltI, leI, leN, le63, le40, le0, wrap64_id, wrapu64_id, wrap8_id]
      refine trd_nil (hK _ _ _ ?_)
      clear hK K hfr
      refine awp_region_k (fun _ => false) (by rw [hB]; rfl) fun K hK base hbase hfr => ?_
      refine tr_run ?_
      simp (disch := omega) only [go_sem, ↓reduceIte, za, zb, zc, zd, ze, zf, zg, zh, zi, zj, zk, zl, zm, zn, zo, dec_t, dec_f, ltI, leI, leN, le63, le40, le0, wrap64_id, wrapu64_id, wrap8_id]
      refine tr_nil (hK _ _ _ ?_)
      clear hK K hbase hfr base
      refine awp_exit ?_
      refine then_x ?_
      refine block_x ?_
      refine then_n ?_
      refine awp_region_e (fun _ => false) (by rw [hB]; rfl) fun K hK base hbase hfr => ?_
      refine tr_run ?_
      simp (disch := omega) only [go_sem, ↓reduceIte, za, zb, zc, zd, ze, zf, zg, zh, zi, zj, zk, zl, zm, zn, zo, dec_t, dec_f, ltI, leI, leN, le63, le40, le0, wrap64_id, wrapu64_id, wrap8_id]
      refine tr_nil (hK _ _ _ ?_)
      clear hK K hbase hfr base
      refine then_n ⟨(i + 1, true, out ++ [pLater x p], base + 8), ?_, ?_, ?_, ?_, Sh.sub_refl _⟩
      · refine ⟨?_, ?_, ?_⟩
        · show out ++ [pLater x p] ++ pGo p true (l.drop (i + 1)) = pPut l p
          rw [← h0, drop_cons_of hx, pGo, if_pos (by assumption)]
          simp
        · simp only [List.length_append, List.length_cons, List.length_nil]; omega
        · dsimp only; omega
      · show l.length - (i + 1) < l.length - i; omega
      · exact Env.subW_one rfl <| Env.subW_one rfl <| Env.subW_one (by first | rfl | (simp only [map_snoc]; rfl)) <| Env.subW_one rfl <| Env.subW_one rfl <| Env.subW_nil _
      · exact Boxes.subW_one rfl <| Boxes.subW_nil _
    · try simp only [yb, yc, yd, ye, yf, yg, yh, yi, yj, yk, yl, ym, yn, yo] at h2
      refine awp_skip ?_
      refine then_n ?_
      refine awp_seq ?_
      refine awp_drawn_k (fun _ => false) (fun _ => false) (by kernel_rfl) (by decide) (by rw [hB]; rfl) fun K hK base hbase hfr => ?_
      rcases q3 : done with _ | _
      · skip
        refine trd_run ?_
        simp (disch := omega) only [go_sem, ↓reduceIte, za, zb, zc, zd, ze, zf, zg, zh, zi, zj, zk, zl, zm, zn, zo, hx, q3, dec_t, dec_f, ltI, leI, leN, le63, le40, le0, wrap64_id, wrapu64_id, wrap8_id]
        refine trd_nil (hK _ _ _ ?_)
        clear hK K hbase hfr base
        try simp only [yb, yc, yd, ye, yf, yg, yh, yi, yj, yk, yl, ym, yn, yo] at q3
        refine awp_cond (rfl) (fun h4 => ?_) (fun h4 => ?_)
        · try simp only [yb, yc, yd, ye, yf, yg, yh, yi, yj, yk, yl, ym, yn, yo] at h4
          refine awp_region_k (fun _ => false) (by rw [hB]; rfl) fun K hK base hbase hfr => ?_
          refine tr_run ?_
          simp (disch := omega) only [go_sem, ↓reduceIte, za, zb, zc, zd, ze, zf, zg, zh, zi, zj, zk, zl, zm, zn, zo, ho, dec_t, dec_f, ltI, leI, leN, le63, le40, le0, wrap64_id, wrapu64_id, wrap8_id]
          refine tr_nil (hK _ _ _ ?_)
          clear hK K hfr
          refine awp_region_e (fun _ => false) (by rw [hB]; rfl) fun K hK base hbase hfr => ?_
          refine tr_run ?_
          simp (disch := omega) only [go_sem, ↓reduceIte, za, zb, zc, zd, ze, zf, zg, zh, zi, zj, zk, zl, zm, zn, zo, dec_t, dec_f, ltI, leI, leN, le63, le40, le0, wrap64_id, wrapu64_id, wrap8_id]
          refine tr_nil (hK _ _ _ ?_)
          clear hK K hbase hfr base
          refine then_n ?_
          refine awp_region_e (fun _ => false) (by rw [hB]; rfl) fun K hK base hbase hfr => ?_
          refine tr_run ?_
          simp (disch := omega) only [go_sem, ↓reduceIte, za, zb, zc, zd, ze, zf, zg, zh, zi, zj, zk, zl, zm, zn, zo, hx, ho, dec_t, dec_f, ltI, leI, leN, le63, le40, le0, wrap64_id, wrapu64_id, wrap8_id]
          refine tr_nil (hK _ _ _ ?_)
          clear hK K hfr
          refine block_n ?_
          refine then_n ?_
          refine awp_region_e (fun _ => false) (by rw [hB]; rfl) fun K hK base hbase hfr => ?_
          refine tr_run ?_
          simp (disch := omega) only [go_sem, ↓reduceIte, za, zb, zc, zd, ze, zf, zg, zh, zi, zj, zk, zl, zm, zn, zo, dec_t, dec_f, ltI, leI, leN, le63, le40, le0, wrap64_id, wrapu64_id, wrap8_id]
          refine tr_nil (hK _ _ _ ?_)
          clear hK K hbase hfr base
          refine then_n ⟨(i + 1, true, out ++ [p] ++ [x], base + 6), ?_, ?_, ?_, ?_, Sh.sub_refl _⟩
          · refine ⟨?_, ?_, ?_⟩
            · have hp : done = false := by simp_all
              try subst hp
              show out ++ [p] ++ [x] ++ pGo p true (l.drop (i + 1)) = pPut l p
              rw [← h0, drop_cons_of hx, pGo, if_neg (by omega), if_pos ⟨rfl, by omega⟩]
              simp
            · simp only [List.length_append, List.length_cons, List.length_nil]; omega
            · dsimp only; omega
          · show l.length - (i + 1) < l.length - i; omega
          · exact Env.subW_one rfl <| Env.subW_one rfl <| Env.subW_one (by first | rfl | (simp only [map_snoc]; rfl)) <| Env.subW_one rfl <| Env.subW_one rfl <| Env.subW_nil _
          · exact Boxes.subW_one rfl <| Boxes.subW_nil _
        · try simp only [yb, yc, yd, ye, yf, yg, yh, yi, yj, yk, yl, ym, yn, yo] at h4
          refine awp_skip ?_
          refine then_n ?_
          refine awp_region_e (fun _ => false) (by rw [hB]; rfl) fun K hK base hbase hfr => ?_
          refine tr_run ?_
          simp (disch := omega) only [go_sem, ↓reduceIte, za, zb, zc, zd, ze, zf, zg, zh, zi, zj, zk, zl, zm, zn, zo, hx, ho, dec_t, dec_f, ltI, leI, leN, le63, le40, le0, wrap64_id, wrapu64_id, wrap8_id]
          refine tr_nil (hK _ _ _ ?_)
          clear hK K hfr
          refine block_n ?_
          refine then_n ?_
          refine awp_region_e (fun _ => false) (by rw [hB]; rfl) fun K hK base hbase hfr => ?_
          refine tr_run ?_
          simp (disch := omega) only [go_sem, ↓reduceIte, za, zb, zc, zd, ze, zf, zg, zh, zi, zj, zk, zl, zm, zn, zo, dec_t, dec_f, ltI, leI, leN, le63, le40, le0, wrap64_id, wrapu64_id, wrap8_id]
          refine tr_nil (hK _ _ _ ?_)
          clear hK K hbase hfr base
          refine then_n ⟨(i + 1, false, out ++ [x], base + 6), ?_, ?_, ?_, ?_, Sh.sub_refl _⟩
          · refine ⟨?_, ?_, ?_⟩
            · have hp : done = false := by simp_all
              try subst hp
              show out ++ [x] ++ pGo p false (l.drop (i + 1)) = pPut l p
              rw [← h0, drop_cons_of hx, pGo, if_neg (by omega), if_neg (by omega)]
              simp
            · simp only [List.length_append, List.length_cons, List.length_nil]; omega
            · dsimp only; omega
          · show l.length - (i + 1) < l.length - i; omega
          · exact Env.subW_one rfl <| Env.subW_one rfl <| Env.subW_one (by first | rfl | (simp only [map_snoc]; rfl)) <| Env.subW_one rfl <| Env.subW_one rfl <| Env.subW_nil _
          · exact Boxes.subW_one rfl <| Boxes.subW_nil _
      · skip
        refine trd_run ?_
        simp (disch := omega) only [go_sem, ↓reduceIte, za, zb, zc, zd, ze, zf, zg, zh, zi, zj, zk, zl, zm, zn, zo, hx, q3, dec_t, dec_f, ltI, leI, leN, le63, le40, le0, wrap64_id, wrapu64_id, wrap8_id]
        refine trd_nil (hK _ _ _ ?_)
        clear hK K hbase hfr base
        try simp only [yb, yc, yd, ye, yf, yg, yh, yi, yj, yk, yl, ym, yn, yo] at q3
        refine awp_cond (rfl) (fun h5 => by cases h5) (fun h5 => ?_)
        refine awp_skip ?_
        refine then_n ?_
        refine awp_region_e (fun _ => false) (by rw [hB]; rfl) fun K hK base hbase hfr => ?_
        refine tr_run ?_
        simp (disch := omega) only [go_sem, ↓reduceIte, za, zb, zc, zd, ze, zf, zg, zh, zi, zj, zk, zl, zm, zn, zo, hx, ho, dec_t, dec_f, ltI, leI, leN, le63, le40, le0, wrap64_id, wrapu64_id, wrap8_id]
        refine tr_nil (hK _ _ _ ?_)
        clear hK K hfr
        refine block_n ?_
        refine then_n ?_
        refine awp_region_e (fun _ => false) (by rw [hB]; rfl) fun K hK base hbase hfr => ?_
        refine tr_run ?_
        simp (disch := omega) only [go_sem, ↓reduceIte, za, zb, zc, zd, ze, zf, zg, zh, zi, zj, zk, zl, zm, zn, zo, dec_t, dec_f, ltI, leI, leN, le63, le40, le0, wrap64_id, wrapu64_id, wrap8_id]
        refine tr_nil (hK _ _ _ ?_)
        clear hK K hbase hfr base
        refine then_n ⟨(i + 1, true, out ++ [x], base + 6), ?_, ?_, ?_, ?_, Sh.sub_refl _⟩
        · refine ⟨?_, ?_, ?_⟩
          · have hp : done = true := by simp_all
            try subst hp
            show out ++ [x] ++ pGo p true (l.drop (i + 1)) = pPut l p
            rw [← h0, drop_cons_of hx, pGo, if_neg (by omega), if_neg (by simp)]
            simp
          · simp only [List.length_append, List.length_cons, List.length_nil]; omega
          · dsimp only; omega
        · show l.length - (i + 1) < l.length - i; omega
        · exact Env.subW_one rfl <| Env.subW_one rfl <| Env.subW_one (by first | rfl | (simp only [map_snoc]; rfl)) <| Env.subW_one rfl <| Env.subW_one rfl <| Env.subW_nil _
        · exact Boxes.subW_one rfl <| Boxes.subW_nil _
  · try simp only [yb, yc, yd, ye, yf, yg, yh, yi, yj, yk, yl, ym, yn, yo] at h1
    refine awp_exit ?_
    refine then_x ?_
    refine then_x ?_
    refine block_x ?_
    refine then_n ?_
    have hle : l.length ≤ i := by omega
    have hfin : out ++ pGo p done [] = pPut l p := by rw [← h0, List.drop_eq_nil_of_le hle]
    have hlo : out.length ≤ 3000000 := by have := pPut_len l p; rw [← hfin, List.length_append] at this; omega
    refine awp_seq ?_
    refine awp_region_k (fun _ => false) (by rw [hB]; rfl) fun K hK base hbase hfr => ?_
    refine tr_run ?_
    simp (disch := omega) only [go_sem, ↓reduceIte, za, zb, zc, zd, ze, zf, zg, zh, zi, zj, zk, zl, zm, zn, zo, dec_t, dec_f, ltI, leI, leN, le63, le40, le0, wrap64_id, wrapu64_id, wrap8_id]
    refine tr_nil (hK _ _ _ ?_)
    clear hK K hbase hfr base
    refine awp_cond (rfl) (fun h6 => ?_) (fun h6 => ?_)
    · try simp only [yb, yc, yd, ye, yf, yg, yh, yi, yj, yk, yl, ym, yn, yo] at h6
      refine awp_region_e (fun _ => false) (by rw [hB]; rfl) fun K hK base hbase hfr => ?_
      refine tr_run ?_
      simp (disch := omega) only [go_sem, ↓reduceIte, za, zb, zc, zd, ze, zf, zg, zh, zi, zj, zk, zl, zm, zn, zo, ho, dec_t, dec_f, ltI, leI, leN, le63, le40, le0, wrap64_id, wrapu64_id, wrap8_id]
      refine tr_nil (hK _ _ _ ?_)
      clear hK K hfr
      refine then_n ?_
      refine awp_region_k (fun _ => false) (by rw [hB]; rfl) fun K hK base hbase hfr => ?_
      refine tr_run ?_
      simp (disch := omega) only [go_sem, ↓reduceIte, za, zb, zc, zd, ze, zf, zg, zh, zi, zj, zk, zl, zm, zn, zo, dec_t, dec_f, ltI, leI, leN, le63, le40, le0, wrap64_id, wrapu64_id, wrap8_id]
      refine tr_nil (hK _ _ _ ?_)
      clear hK K hbase hfr base
      refine awp_ret ?_
      refine ⟨_, rfl, ?_, fun _ _ h => h, fun _ h => List.mem_cons_of_mem _ h⟩
      have e : pPut l p = out ++ [p] := by rw [← hfin, pGo, if_neg (by simp_all)]
      rw [e, map_snoc]; exact .one (.one (.no _ _))
    · try simp only [yb, yc, yd, ye, yf, yg, yh, yi, yj, yk, yl, ym, yn, yo] at h6
      refine awp_skip ?_
      refine then_n ?_
      refine awp_region_k (fun _ => false) (by rw [hB]; rfl) fun K hK base hbase hfr => ?_
      refine tr_run ?_
      simp (disch := omega) only [go_sem, ↓reduceIte, za, zb, zc, zd, ze, zf, zg, zh, zi, zj, zk, zl, zm, zn, zo, dec_t, dec_f, ltI, leI, leN, le63, le40, le0, wrap64_id, wrapu64_id, wrap8_id]
      refine tr_nil (hK _ _ _ ?_)
      clear hK K hbase hfr base
      refine awp_ret ?_
      refine ⟨_, rfl, ?_, fun _ _ h => h, fun _ h => List.mem_cons_of_mem _ h⟩
      have e : pPut l p = out := by rw [← hfin, pGo, if_pos (by simp_all), List.append_nil]
      rw [e]; exact .one (.one (.no _ _))

def pJoin (a b : List Peer) : List Peer := (b.foldl pPut a).take 64
theorem foldl_dropP {l : List Peer} {i : Nat} {x : Peer} {b z : List Peer} (hx : l[i]? = some x) (h : (l.drop i).foldl pPut b = z) : (l.drop (i + 1)).foldl pPut (pPut b x) = z := by
  rw [← h, drop_cons_of hx]; rfl
theorem c52 (a b : List Peer) (ta tb : Tag) (ha : a.length ≤ 100000) (hb : b.length ≤ 100000) : PCalls Go.Proofs.Tryz.prog 52 [.list (a.map peerV) ta, .list (b.map peerV) tb] (.list ((pJoin a b).map peerV) .no) := by
  refine pcalls_of_awp Go.Proofs.Tryz.func52 rfl (by decide) (Nat.le_of_ble_eq_true rfl) ?_
  intro B σ hB ho hob
  refine awp_region_k (fun _ => false) (by rw [hB]; rfl) fun K hK base hbase hfr => ?_
  refine tr_run ?_
  simp (disch := omega) only [go_sem, ↓reduceIte, za, zb, zc, zd, ze, zf, zg, zh, zi, zj, zk, zl, zm, zn, zo, dec_t, dec_f, ltI, leI, leN, le63, le40, le0, wrap64_id, wrapu64_id, wrap8_id]
  refine tr_nil (hK _ _ _ ?_)
  clear hK K hbase hfr base
  refine awp_region_k (fun _ => false) (by rw [hB]; rfl) fun K hK base hbase hfr => ?_
  refine tr_run ?_
  simp (disch := omega) only [go_sem, ↓reduceIte, za, zb, zc, zd, ze, zf, zg, zh, zi, zj, zk, zl, zm, zn, zo, dec_t, dec_f, ltI, leI, leN, le63, le40, le0, wrap64_id, wrapu64_id, wrap8_id]
  refine tr_nil (hK _ _ _ ?_)
  clear hK K hbase hfr base
  refine awp_seq ?_
  refine awp_region_k (fun _ => false) (by rw [hB]; rfl) fun K hK base hbase hfr => ?_
  refine tr_run ?_
  simp (disch := omega) only [go_sem, ↓reduceIte, za, zb, zc, zd, ze, zf, zg, zh, zi, zj, zk, zl, zm, zn, zo, dec_t, dec_f, ltI, leI, leN, le63, le40, le0, wrap64_id, wrapu64_id, wrap8_id]
  refine tr_nil (hK _ _ _ ?_)
  clear hK K hbase hfr base
  refine awp_block ?_
  refine awp_loop_w (α := Nat × List Peer) (fun x => (b.drop x.1).foldl pPut x.2 = b.foldl pPut a ∧ x.2.length ≤ a.length + x.1 ∧ x.1 ≤ b.length) (fun x => [(1, .list (b.map peerV) tb), (5, .list (x.2.map peerV) .no), (6, .int .i64 x.1)]) (fun x => []) (fun x => σ) (fun x => b.length - x.1) (0, a) ?_ ?_ (Boxes.subW_nil _) (Sh.sub_refl _) ?_
  · exact ⟨rfl, Nat.le_refl _, Nat.zero_le _⟩
  · exact Env.subW_one rfl <| Env.subW_cons rfl (.one (.no _ _)) <| Env.subW_one rfl <| Env.subW_nil _
  rintro ⟨i, out⟩ ⟨h0, ho1, ho2⟩
  try dsimp only at h0 ho1 ho2
  refine awp_seq ?_
  refine awp_region_k (fun _ => false) (by rw [hB]; rfl) fun K hK base hbase hfr => ?_
  refine tr_run ?_
  simp (disch := omega) only [go_sem, ↓reduceIte, za, zb, zc, zd, ze, zf, zg, zh, zi, zj, zk, zl, zm, zn, zo, dec_t, dec_f, ltI, leI, leN, le63, le40, le0, wrap64_id, wrapu64_id, wrap8_id]
  refine tr_nil (hK _ _ _ ?_)
  clear hK K hbase hfr base
  refine awp_cond (rfl) (fun h1 => ?_) (fun h1 => ?_)
  · try simp only [yb, yc, yd, ye, yf, yg, yh, yi, yj, yk, yl, ym, yn, yo] at h1
    obtain ⟨x, hx, hm, hi⟩ := get_of_lt h1
    refine awp_skip ?_
    refine then_n ?_
    refine awp_seq ?_
    refine awp_block ?_
    refine awp_region_e (fun _ => false) (by rw [hB]; rfl) fun K hK base hbase hfr => ?_
    refine tr_run ?_
    simp (disch := omega) only [go_sem, ↓reduceIte, za, zb, zc, zd, ze, zf, zg, zh, zi, zj, zk, zl, zm, zn, zo, hx, dec_t, dec_f, ltI, leI, leN, le63, le40, le0, wrap64_id, wrapu64_id, wrap8_id]
    refine tr_pc (by rfl) (by simp only [go_sem, ↓reduceIte, za, zb, zc, zd, ze, zf, zg, zh, zi, zj, zk, zl, zm, zn, zo, hx] <;> rfl) (c114 out .no x (by omega)) ?_
    simp (disch := omega) only [go_sem, ↓reduceIte, za, zb, zc, zd, ze, zf, zg, zh, zi, zj, zk, zl, zm, zn, zo, hx, dec_t, dec_f, ltI, leI, leN, le63, le40, le0, wrap64_id, wrapu64_id, wrap8_id]
    refine tr_nil (hK _ _ _ ?_)
    clear hK K hbase hfr base
    refine block_n ?_
    refine then_n ?_
    refine awp_region_e (fun _ => false) (by rw [hB]; rfl) fun K hK base hbase hfr => ?_
    refine tr_run ?_
    simp (disch := omega) only [go_sem, ↓reduceIte, za, zb, zc, zd, ze, zf, zg, zh, zi, zj, zk, zl, zm, zn, zo, dec_t, dec_f, ltI, leI, leN, le63, le40, le0, wrap64_id, wrapu64_id, wrap8_id]
    refine tr_nil (hK _ _ _ ?_)
    clear hK K hbase hfr base
    refine then_n ⟨(i + 1, pPut out x), ?_, ?_, ?_, ?_, Sh.sub_refl _⟩
    · refine ⟨foldl_dropP hx h0, ?_, hi⟩
      show (pPut out x).length ≤ _
      have := pPut_len out x
      omega
    · show b.length - (i + 1) < b.length - i; omega
    · exact Env.subW_one rfl <| Env.subW_one rfl <| Env.subW_one rfl <| Env.subW_nil _
    · exact Boxes.subW_nil _
  · try simp only [yb, yc, yd, ye, yf, yg, yh, yi, yj, yk, yl, ym, yn, yo] at h1
    refine awp_exit ?_
    refine then_x ?_
    refine then_x ?_
    refine block_x ?_
    refine then_n ?_
    have hfin : pJoin a b = out.take 64 := by unfold pJoin; rw [← h0, get_le h1]; rfl
    refine awp_region_k (fun _ => false) (by rw [hB]; rfl) fun K hK base hbase hfr => ?_
    refine tr_run ?_
    simp (disch := omega) only [go_sem, ↓reduceIte, za, zb, zc, zd, ze, zf, zg, zh, zi, zj, zk, zl, zm, zn, zo, dec_t, dec_f, ltI, leI, leN, le63, le40, le0, wrap64_id, wrapu64_id, wrap8_id]
    refine tr_pc (by rfl) (by simp only [go_sem, ↓reduceIte, za, zb, zc, zd, ze, zf, zg, zh, zi, zj, zk, zl, zm, zn, zo] <;> rfl) (c115 out .no) ?_
    simp (disch := omega) only [go_sem, ↓reduceIte, za, zb, zc, zd, ze, zf, zg, zh, zi, zj, zk, zl, zm, zn, zo, dec_t, dec_f, ltI, leI, leN, le63, le40, le0, wrap64_id, wrapu64_id, wrap8_id]
    refine tr_nil (hK _ _ _ ?_)
    clear hK K hbase hfr base
    refine awp_ret ?_
    refine ⟨_, rfl, ?_, fun _ _ h => h, fun _ h => h⟩
    rw [hfin]; exact VW.refl _
end Go.Am
namespace Go.Am
open Go

structure St where
  id : Int
  upto : Int
  bags : List Bag
  tags : List Tg
  view : List Peer
  holds : List Hold
def bagC (b : Bag) : List AV := [.list (b.live.map msgV) .no, .list (b.ctx.base.map dot) .no, .list (b.ctx.cloud.map dot) .no]
def stE (s : St) : List AV := [.list (s.tags.map tgV) .no, .list (s.view.map peerV) .no, .list (s.holds.map holdV) .no]
def stV (s : St) : List AV := .int .i64 s.id :: .int .i64 s.upto :: (s.bags.flatMap bagC ++ stE s)
theorem bagsC_len (l : List Bag) : (l.flatMap bagC).length = 3 * l.length := by
  induction l with
  | nil => rfl
  | cons a l ih => simp only [List.flatMap_cons, List.length_append, ih, List.length_cons, bagC, List.length_nil]; omega
theorem bagsC_split {l : List Bag} {p : Nat} (h : p < l.length) : l.flatMap bagC = (l.take p).flatMap bagC ++ (bagC (l.getD p bag0) ++ (l.drop (p + 1)).flatMap bagC) := by
  have e : l = l.take p ++ l[p] :: l.drop (p + 1) := by rw [List.getElem_cons_drop, List.take_append_drop]
  rw [getD_eq _ _ _ h]
  conv => lhs; rw [e]
  rw [List.flatMap_append, List.flatMap_cons]
theorem bagsC_pre {l : List Bag} {p : Nat} (h : p < l.length) : ((l.take p).flatMap bagC).length = p * 3 := by
  rw [bagsC_len, List.length_take]; omega
theorem bagC_one (b : Bag) : (bagC b).all AV.one = true := rfl
theorem drop2 {α : Type} (a b : α) (l : List α) (n : Nat) : (a :: b :: l).drop (2 + n) = l.drop n := by rw [Nat.add_comm]; rfl
set_option linter.unusedSectionVars false
set_option linter.unusedVariables false
section
variable {s : St} (hb : s.bags.length = 16)
include hb
theorem stV_len : (stV s).length = 53 := by simp only [stV, List.length_cons, List.length_append, bagsC_len, hb, stE, List.length_nil]
theorem stV_dropB {p : Nat} (hp : p < 16) : (stV s).drop (2 + p * 3) = bagC (s.bags.getD p bag0) ++ ((s.bags.drop (p + 1)).flatMap bagC ++ stE s) := by
  have h := hb ▸ hp
  rw [stV, drop2, bagsC_split h, ← bagsC_pre h]
  simp
theorem stV_dropE : (stV s).drop 50 = stE s := by
  rw [stV, show 50 = 2 + 48 from rfl, drop2, show 48 = (s.bags.flatMap bagC).length by rw [bagsC_len, hb]]
  simp
theorem ld_bag {p : Nat} (hp : p < 16) : aload Go.Proofs.Tryz.prog 34 ((stV s).drop (2 + p * 3)) = some (bagV (s.bags.getD p bag0) .no .no .no) := by
  rw [stV_dropB hb hp]
  simp only [aload, tsz34, tag34]
  rfl
theorem ld_tags : aload Go.Proofs.Tryz.prog 49 ((stV s).drop 50) = some (.list (s.tags.map tgV) .no) := by rw [stV_dropE hb]; simp only [aload, tsz49, tag49]; rfl
theorem ld_view : aload Go.Proofs.Tryz.prog 50 ((stV s).drop 51) = some (.list (s.view.map peerV) .no) := by
  rw [show 51 = 50 + 1 from rfl, ← List.drop_drop, stV_dropE hb]; simp only [aload, tsz50, tag50]; rfl
theorem ld_holds : aload Go.Proofs.Tryz.prog 51 ((stV s).drop 52) = some (.list (s.holds.map holdV) .no) := by
  rw [show 52 = 50 + 2 from rfl, ← List.drop_drop, stV_dropE hb]; simp only [aload, tsz51, tag51]; rfl
theorem ld_id : aload Go.Proofs.Tryz.prog 3 (stV s) = some (.int .i64 s.id) := by simp only [aload, tsz3, tag3]; rfl
theorem ld_upto : aload Go.Proofs.Tryz.prog 3 ((stV s).drop 1) = some (.int .i64 s.upto) := by simp only [aload, tsz3, tag3]; rfl
theorem asplice_eq {cs ns pre post : List AV} {old : List AV} (e : cs = pre ++ (old ++ post)) (h : old.length = ns.length) (h1 : ns.all AV.one = true) : asplice cs pre.length ns = some (pre ++ (ns ++ post)) := by
  subst e
  simp only [asplice, h1, Bool.and_true, decide_eq_true_eq]
  rw [if_pos (by simp only [List.length_append]; omega)]
  rw [List.take_left, ← h, ← List.append_assoc pre old post, show pre.length + old.length = (pre ++ old).length by simp, List.drop_left, List.append_assoc]
theorem st_id (n : Int) : asplice (stV s) 0 [.int .i64 n] = some (stV { s with id := n }) := asplice_eq (pre := []) (old := [.int .i64 s.id]) hb rfl rfl rfl
theorem st_upto (n : Int) : asplice (stV s) 1 [.int .i64 n] = some (stV { s with upto := n }) := asplice_eq (pre := [.int .i64 s.id]) (old := [.int .i64 s.upto]) hb rfl rfl rfl
theorem st_bag {p : Nat} (hp : p < 16) (b : Bag) : asplice (stV s) (2 + p * 3) [.list (b.live.map msgV) .no, .list (b.ctx.base.map dot) .no, .list (b.ctx.cloud.map dot) .no] = some (stV { s with bags := s.bags.set p b }) := by
  have h := hb ▸ hp
  have h1 := asplice_eq (cs := stV s) (pre := .int .i64 s.id :: .int .i64 s.upto :: (s.bags.take p).flatMap bagC) (old := bagC (s.bags.getD p bag0)) (ns := bagC b) (post := (s.bags.drop (p + 1)).flatMap bagC ++ stE s) hb
    (by rw [stV, bagsC_split h]; simp) rfl rfl
  rw [show (AV.int .i64 s.id :: .int .i64 s.upto :: (s.bags.take p).flatMap bagC).length = 2 + p * 3 by simp only [List.length_cons, bagsC_pre h]; omega] at h1
  refine h1.trans ?_
  have h2 : p < (s.bags.set p b).length := by rw [List.length_set]; exact h
  rw [stV, bagsC_split h2]
  simp [List.getD, h, List.take_set_of_le, stE, List.drop_set_of_lt (Nat.lt_succ_self p)]
theorem st_tags (l : List Tg) : asplice (stV s) 50 [.list (l.map tgV) .no] = some (stV { s with tags := l }) := by
  have h1 := asplice_eq (cs := stV s) (pre := .int .i64 s.id :: .int .i64 s.upto :: s.bags.flatMap bagC) (old := [.list (s.tags.map tgV) .no]) (ns := [.list (l.map tgV) .no]) (post := [.list (s.view.map peerV) .no, .list (s.holds.map holdV) .no]) hb rfl rfl rfl
  rw [show (AV.int .i64 s.id :: .int .i64 s.upto :: s.bags.flatMap bagC).length = 50 by simp only [List.length_cons, bagsC_len, hb]] at h1
  exact h1
theorem st_view (l : List Peer) : asplice (stV s) 51 [.list (l.map peerV) .no] = some (stV { s with view := l }) := by
  have h1 := asplice_eq (cs := stV s) (pre := .int .i64 s.id :: .int .i64 s.upto :: (s.bags.flatMap bagC ++ [.list (s.tags.map tgV) .no])) (old := [.list (s.view.map peerV) .no]) (ns := [.list (l.map peerV) .no]) (post := [.list (s.holds.map holdV) .no]) hb
    (by simp [stV, stE]) rfl rfl
  rw [show (AV.int .i64 s.id :: .int .i64 s.upto :: (s.bags.flatMap bagC ++ [.list (s.tags.map tgV) .no])).length = 51 by simp only [List.length_cons, List.length_append, bagsC_len, hb, List.length_nil]] at h1
  rw [h1]; simp [stV, stE]
theorem st_holds (l : List Hold) : asplice (stV s) 52 [.list (l.map holdV) .no] = some (stV { s with holds := l }) := by
  have h1 := asplice_eq (cs := stV s) (pre := .int .i64 s.id :: .int .i64 s.upto :: (s.bags.flatMap bagC ++ [.list (s.tags.map tgV) .no, .list (s.view.map peerV) .no])) (old := [.list (s.holds.map holdV) .no]) (ns := [.list (l.map holdV) .no]) (post := []) hb
    (by simp [stV, stE]) rfl rfl
  rw [show (AV.int .i64 s.id :: .int .i64 s.upto :: (s.bags.flatMap bagC ++ [.list (s.tags.map tgV) .no, .list (s.view.map peerV) .no])).length = 52 by simp only [List.length_cons, List.length_append, bagsC_len, hb, List.length_nil]] at h1
  rw [h1]; simp [stV, stE]
end
attribute [go_sem ↓] ld_bag ld_tags ld_view ld_holds ld_id ld_upto st_id st_upto st_bag st_tags st_view st_holds
attribute [go_sem] stV_len
theorem bcn (m : UInt8) (l : List UInt8) : ((m :: l) == ([] : List UInt8)) = false := rfl
theorem bc1 (m c : UInt8) : ([m] == [c]) = (m == c) := by simp
theorem obs_r {σ : Sh} {oid rid : Nat} {X R : Ob} (hσ : σ.ob oid = some X) (hn : σ.ob rid = none) : ∀ i o, (σ.setOb oid X).ob i = some o → (σ.setOb rid R).ob i = some o := by
  intro i o h
  have e : (σ.setOb oid X).ob i = σ.ob i := by simp only [Sh.setOb]; split
                                               · rename_i h1; rw [h1, hσ]
                                               · rfl
  rw [e] at h
  simp only [Sh.setOb]
  rw [if_neg (fun h1 => by rw [h1, hn] at h; cases h)]
  exact h
theorem obs_s {σ : Sh} {oid rid : Nat} {X R : Ob} (hne : rid ≠ oid) (hn : σ.ob rid = none) : ∀ i o, (σ.setOb oid X).ob i = some o → ((σ.setOb rid R).setOb oid X).ob i = some o := by
  intro i o h
  simp only [Sh.setOb] at h ⊢
  split
  · rename_i h1; rw [if_pos h1] at h; exact h
  · rename_i h1
    rw [if_neg h1] at h
    rw [if_neg (fun h2 => by rw [h2, hn] at h; cases h)]
    exact h
/-! how long what is read is at most -/
theorem rlGo_len {α : Type} (f : Rd → α × Rd) : ∀ (k : Nat) (out : List α) (r : Rd), (rlGo f k out r).1.length ≤ out.length + k
  | 0, out, r => Nat.le_refl _
  | k + 1, out, r => by
    rw [rlGo]
    split
    · exact Nat.le_add_right _ _
    · have := rlGo_len f k (out ++ [(f r).1]) (f r).2
      simp only [List.length_append, List.length_cons, List.length_nil] at this
      omega
theorem rdL_len {α : Type} (f : Rd → α × Rd) (chk : List α → Bool) (most : Nat) (r : Rd) : (rdL f chk most r).1.length ≤ most := by
  unfold rdL
  split
  · exact Nat.zero_le _
  · have h1 := rlGo_len f (rInt most r).1.toNat [] (rInt most r).2
    have h2 := (rInt_le most r (by omega)).2
    simp only [List.length_nil] at h1
    unfold rdL0
    omega
theorem cok0 : Cok ⟨[], []⟩ := ⟨by simp, by simp, by simp, by simp⟩
theorem rCtx_cok (r : Rd) : (rCtx r).1.base.length ≤ 1000 ∧ (rCtx r).1.cloud.length ≤ 1000 ∧ Cok (rCtx r).1 := by
  unfold rCtx
  split
  · exact ⟨Nat.zero_le _, Nat.zero_le _, cok0⟩
  · have h1 : (rRow 1000 r).1.length ≤ 1000 := rRow_len 1000 r (by decide)
    have h2 : (rRow 1000 (rCtxA r)).1.length ≤ 1000 := rRow_len 1000 (rCtxA r) (by decide)
    exact ⟨h1, h2, ⟨rRow_in _ _, rRow_in _ _, Nat.le_trans h1 (by decide), Nat.le_trans h2 (by decide)⟩⟩
theorem rBagGo_len : ∀ (k : Nat) (out : List Msg) (r : Rd), (rBagGo k out r).1.length ≤ out.length + k
  | 0, out, r => Nat.le_refl _
  | k + 1, out, r => by
    rw [rBagGo]
    split
    · exact Nat.le_add_right _ _
    · have := rBagGo_len k (out ++ [rMsg r]) (rM4 r)
      simp only [List.length_append, List.length_cons, List.length_nil] at this
      omega
theorem rBag_in (r : Rd) : (rBag r).1.live.length ≤ 1000 ∧ (rBag r).1.ctx.base.length ≤ 1000 ∧ (rBag r).1.ctx.cloud.length ≤ 1000 ∧ Cok (rBag r).1.ctx := by
  unfold rBag
  split
  · exact ⟨Nat.zero_le _, Nat.zero_le _, Nat.zero_le _, cok0⟩
  · have h1 := rBagGo_len (rInt 1000 (rCtx r).2).1.toNat [] (rInt 1000 (rCtx r).2).2
    have h2 := (rInt_le 1000 (rCtx r).2 (by decide)).2
    obtain ⟨h3, h4, h5⟩ := rCtx_cok r
    simp only [List.length_nil] at h1
    refine ⟨?_, h3, h4, h5⟩
    show (rBag0 r).1.length ≤ 1000
    unfold rBag0
    omega
end Go.Am
