/- What functions of this program compute, a part: see the main text. No conditions. -/
import Derived.Test.YtanpeaakmdffcaaGreatW18
set_option linter.all false
set_option maxRecDepth 100000
namespace Go.Am
open Go
open Nat renaming reduceEqDiff → za, reduceAdd → zb, reduceMul → zc, reducePow → zd, reduceLeDiff → ze, reduceSub → zf, reduceBEq → zg, reduceBNe → zh, reduceDiv → zi, reduceMod → zj
open Int renaming reduceLT → zk, reduceLE → zl, reduceEq → zm, reduceNe → zn, reduceToNat → zo
def mPrev : Option (Int × Int) → Msg → Bool
  | none, _ => true
  | some y, m => dLess y m.d
def mOk (c : Ctx) : Option (Int × Int) → List Msg → Bool
  | _, [] => true
  | p, m :: l => mMay m && (cHas c m.d && (mPrev p m && mOk c (some m.d) l))
def bCheck (b : Bag) : Bool := cCheck b.ctx && mOk b.ctx none b.live
def prevM (l : List Msg) : Nat → Option (Int × Int)
  | 0 => none
  | i + 1 => some (l.getD i msg0).d
theorem prevM_pos {l : List Msg} {i : Nat} {y : Msg} (hy : l[i - 1]? = some y) (h : 0 < i) : prevM l i = some y.d := by
  cases i with
  | zero => omega
  | succ j => simp at hy; simp [prevM, List.getD, hy]
theorem prevM_next {l : List Msg} {i : Nat} {x : Msg} (hx : l[i]? = some x) : prevM l (i + 1) = some x.d := by simp [prevM, List.getD, hx]
theorem c108 (b : Bag) (t0 t1 t2 : Tag) (hb : ∀ d ∈ b.ctx.base, 0 ≤ d.2 ∧ d.2 ≤ 4611686018427387904) : PCalls Go.Proofs.Tryz.prog 108 [bagV b t0 t1 t2] (.int .i64 (if bCheck b then 0 else 1)) := by
  refine pcalls_of_awp Go.Proofs.Tryz.func108 rfl (by decide) (Nat.le_of_ble_eq_true rfl) ?_
  intro B σ hB ho hob
  refine awp_region_k (fun _ => false) (by rw [hB]; rfl) fun K hK base hbase hfr => tr_run ?_
  simp (disch := omega) only [go_sem, ↓reduceIte, za, zb, zc, zd, ze, zf, zg, zh, zi, zj, zk, zl, zm, zn, zo, dec_t, dec_f, ltI, leI, leN, le63, le40, le0, wrap64_id, wrapu64_id, wrap8_id]
  refine tr_nil (hK _ _ _ ?_)
  clear hK K hbase hfr base
  refine awp_seq ?_
  rcases q1 : cCheck b.ctx with _ | _
  · skip
    refine awp_region_k (fun _ => false) (by rw [hB]; rfl) fun K hK base hbase hfr => tr_run ?_
    simp (disch := omega) only [go_sem, ↓reduceIte, za, zb, zc, zd, ze, zf, zg, zh, zi, zj, zk, zl, zm, zn, zo, q1, dec_t, dec_f, ltI, leI, leN, le63, le40, le0, wrap64_id, wrapu64_id, wrap8_id]
    refine tr_pc (by rfl) (by simp only [go_sem, ↓reduceIte, za, zb, zc, zd, ze, zf, zg, zh, zi, zj, zk, zl, zm, zn, zo, q1] <;> rfl) (c159 b.ctx t1 t2 hb) ?_
    simp (disch := omega) only [go_sem, ↓reduceIte, za, zb, zc, zd, ze, zf, zg, zh, zi, zj, zk, zl, zm, zn, zo, q1, dec_t, dec_f, ltI, leI, leN, le63, le40, le0, wrap64_id, wrapu64_id, wrap8_id]
    refine tr_nil (hK _ _ _ ?_)
    clear hK K hbase hfr base
    try simp only [yb, yc, yd, ye, yf, yg, yh, yi, yj, yk, yl, ym, yn, yo] at q1
    refine awp_cond (rfl) (fun h2 => ?_) (fun h2 => by cases h2)
    refine awp_region_k (fun _ => false) (by rw [hB]; rfl) fun K hK base hbase hfr => tr_run ?_
    simp (disch := omega) only [go_sem, ↓reduceIte, za, zb, zc, zd, ze, zf, zg, zh, zi, zj, zk, zl, zm, zn, zo, dec_t, dec_f, ltI, leI, leN, le63, le40, le0, wrap64_id, wrapu64_id, wrap8_id]
    refine tr_nil (hK _ _ _ ?_)
    clear hK K hbase hfr base
    refine awp_ret ?_
    refine then_r ?_
    rw [show bCheck b = false by unfold bCheck; rw [q1]; rfl]
    exact ⟨_, rfl, VW.refl _, fun _ _ h => h, fun _ h => h⟩
  · skip
    refine awp_region_k (fun _ => false) (by rw [hB]; rfl) fun K hK base hbase hfr => tr_run ?_
    simp (disch := omega) only [go_sem, ↓reduceIte, za, zb, zc, zd, ze, zf, zg, zh, zi, zj, zk, zl, zm, zn, zo, q1, dec_t, dec_f, ltI, leI, leN, le63, le40, le0, wrap64_id, wrapu64_id, wrap8_id]
    refine tr_pc (by rfl) (by simp only [go_sem, ↓reduceIte, za, zb, zc, zd, ze, zf, zg, zh, zi, zj, zk, zl, zm, zn, zo, q1] <;> rfl) (c159 b.ctx t1 t2 hb) ?_
    simp (disch := omega) only [go_sem, ↓reduceIte, za, zb, zc, zd, ze, zf, zg, zh, zi, zj, zk, zl, zm, zn, zo, q1, dec_t, dec_f, ltI, leI, leN, le63, le40, le0, wrap64_id, wrapu64_id, wrap8_id]
    refine tr_nil (hK _ _ _ ?_)
    clear hK K hbase hfr base
    try simp only [yb, yc, yd, ye, yf, yg, yh, yi, yj, yk, yl, ym, yn, yo] at q1
    refine awp_cond (rfl) (fun h3 => by cases h3) (fun h3 => ?_)
    refine awp_skip ?_
    refine then_n ?_
    refine awp_seq ?_
    refine awp_region_k (fun _ => false) (by rw [hB]; rfl) fun K hK base hbase hfr => tr_run ?_
    simp (disch := omega) only [go_sem, ↓reduceIte, za, zb, zc, zd, ze, zf, zg, zh, zi, zj, zk, zl, zm, zn, zo, dec_t, dec_f, ltI, leI, leN, le63, le40, le0, wrap64_id, wrapu64_id, wrap8_id]
    refine tr_nil (hK _ _ _ ?_)
    clear hK K hbase hfr base
    refine awp_block ?_
    refine awp_loop_w (α := Nat) (fun x => mOk b.ctx (prevM b.live x) (b.live.drop x) = mOk b.ctx none b.live) (fun x => [(1, .lref 1 0), (2, .int .i64 0), (3, .int .i64 x)]) (fun x => [(1, [.list (b.live.map msgV) t0, .list (b.ctx.base.map dot) t1, .list (b.ctx.cloud.map dot) t2])]) (fun x => σ) (fun x => b.live.length - x) 0 ?_ ?_ ?_ (Sh.sub_refl _) ?_
    · exact rfl
    · exact Env.subW_one rfl <| Env.subW_one rfl <| Env.subW_one rfl <| Env.subW_nil _
    · exact Boxes.subW_one rfl <| Boxes.subW_nil _
    rintro i h0
    try dsimp only at h0
    refine awp_seq ?_
    refine awp_region_k (fun _ => false) (by rw [hB]; rfl) fun K hK base hbase hfr => tr_run ?_
    simp (disch := omega) only [go_sem, ↓reduceIte, za, zb, zc, zd, ze, zf, zg, zh, zi, zj, zk, zl, zm, zn, zo, dec_t, dec_f, ltI, leI, leN, le63, le40, le0, wrap64_id, wrapu64_id, wrap8_id]
    refine tr_nil (hK _ _ _ ?_)
    clear hK K hbase hfr base
    refine awp_len 13 rfl fun hlen => ?_
    simp only [List.length_map] at hlen
    refine awp_cond (rfl) (fun h4 => ?_) (fun h4 => ?_)
    · try simp only [yb, yc, yd, ye, yf, yg, yh, yi, yj, yk, yl, ym, yn, yo] at h4
      obtain ⟨x, hx, hm, hi⟩ := get_of_lt h4
      obtain ⟨y, hy⟩ : ∃ y, b.live[i - 1]? = some y := ⟨b.live[i - 1], List.getElem?_eq_getElem (by omega)⟩
      have hip : ((i : Int) - 1).toNat = i - 1 := by omega
      refine awp_skip ?_
      refine then_n ?_
      refine awp_seq ?_
      refine awp_block ?_
      refine awp_region_k (fun _ => false) (by rw [hB]; rfl) fun K hK base hbase hfr => tr_run ?_
      simp (disch := omega) only [go_sem, ↓reduceIte, za, zb, zc, zd, ze, zf, zg, zh, zi, zj, zk, zl, zm, zn, zo, hx, dec_t, dec_f, ltI, leI, leN, le63, le40, le0, wrap64_id, wrapu64_id, wrap8_id]
      refine tr_nil (hK _ _ _ ?_)
      clear hK K hbase hfr base
      refine awp_region_k (fun _ => false) (by rw [hB]; rfl) fun K hK base hbase hfr => tr_run ?_
      simp (disch := omega) only [go_sem, ↓reduceIte, za, zb, zc, zd, ze, zf, zg, zh, zi, zj, zk, zl, zm, zn, zo, dec_t, dec_f, ltI, leI, leN, le63, le40, le0, wrap64_id, wrapu64_id, wrap8_id]
      refine tr_pc (by rfl) (by simp only [go_sem, ↓reduceIte, za, zb, zc, zd, ze, zf, zg, zh, zi, zj, zk, zl, zm, zn, zo] <;> rfl) (c95 x) ?_
      simp (disch := omega) only [go_sem, ↓reduceIte, za, zb, zc, zd, ze, zf, zg, zh, zi, zj, zk, zl, zm, zn, zo, dec_t, dec_f, ltI, leI, leN, le63, le40, le0, wrap64_id, wrapu64_id, wrap8_id]
      refine tr_nil (hK _ _ _ ?_)
      clear hK K hbase hfr base
      refine awp_region_k (fun _ => false) (by rw [hB]; rfl) fun K hK base hbase hfr => tr_run ?_
      simp (disch := omega) only [go_sem, ↓reduceIte, za, zb, zc, zd, ze, zf, zg, zh, zi, zj, zk, zl, zm, zn, zo, dec_t, dec_f, ltI, leI, leN, le63, le40, le0, wrap64_id, wrapu64_id, wrap8_id]
      refine tr_pc (by rfl) (by simp only [go_sem, ↓reduceIte, za, zb, zc, zd, ze, zf, zg, zh, zi, zj, zk, zl, zm, zn, zo] <;> rfl) (c96 b.ctx t1 t2 x.d) ?_
      simp (disch := omega) only [go_sem, ↓reduceIte, za, zb, zc, zd, ze, zf, zg, zh, zi, zj, zk, zl, zm, zn, zo, dec_t, dec_f, ltI, leI, leN, le63, le40, le0, wrap64_id, wrapu64_id, wrap8_id]
      refine tr_nil (hK _ _ _ ?_)
      clear hK K hbase hfr base
      refine awp_seq ?_
      rcases q5 : mMay x with _ | _
      · skip
        refine awp_region_k (fun _ => false) (by rw [hB]; rfl) fun K hK base hbase hfr => tr_run ?_
        simp (disch := omega) only [go_sem, ↓reduceIte, za, zb, zc, zd, ze, zf, zg, zh, zi, zj, zk, zl, zm, zn, zo, q5, dec_t, dec_f, ltI, leI, leN, le63, le40, le0, wrap64_id, wrapu64_id, wrap8_id]
        refine tr_nil (hK _ _ _ ?_)
        clear hK K hbase hfr base
        try simp only [yb, yc, yd, ye, yf, yg, yh, yi, yj, yk, yl, ym, yn, yo] at q5
        refine awp_cond (rfl) (fun h6 => ?_) (fun h6 => by cases h6)
        refine awp_region_k (fun _ => false) (by rw [hB]; rfl) fun K hK base hbase hfr => tr_run ?_
        simp (disch := omega) only [go_sem, ↓reduceIte, za, zb, zc, zd, ze, zf, zg, zh, zi, zj, zk, zl, zm, zn, zo, dec_t, dec_f, ltI, leI, leN, le63, le40, le0, wrap64_id, wrapu64_id, wrap8_id]
        refine tr_nil (hK _ _ _ ?_)
        clear hK K hbase hfr base
        refine awp_ret ?_
        refine then_r ?_
        refine block_r ?_
        refine then_r ?_
        refine then_r ?_
        refine block_r ?_
        refine then_r ?_
        rw [show bCheck b = false by unfold bCheck; rw [show mOk b.ctx none b.live = false by rw [← h0, drop_cons_of hx, mOk, show mMay x = false by assumption]; rfl]; simp]
        exact ⟨_, rfl, VW.refl _, fun _ _ h => h, fun _ h => h⟩
      · skip
        refine awp_region_k (fun _ => false) (by rw [hB]; rfl) fun K hK base hbase hfr => tr_run ?_
        simp (disch := omega) only [go_sem, ↓reduceIte, za, zb, zc, zd, ze, zf, zg, zh, zi, zj, zk, zl, zm, zn, zo, q5, dec_t, dec_f, ltI, leI, leN, le63, le40, le0, wrap64_id, wrapu64_id, wrap8_id]
        refine tr_nil (hK _ _ _ ?_)
        clear hK K hbase hfr base
        try simp only [yb, yc, yd, ye, yf, yg, yh, yi, yj, yk, yl, ym, yn, yo] at q5
        refine awp_cond (rfl) (fun h7 => ?_) (fun h7 => ?_)
        · try simp only [yb, yc, yd, ye, yf, yg, yh, yi, yj, yk, yl, ym, yn, yo] at h7
          refine awp_region_k (fun _ => false) (by rw [hB]; rfl) fun K hK base hbase hfr => tr_run ?_
          simp (disch := omega) only [go_sem, ↓reduceIte, za, zb, zc, zd, ze, zf, zg, zh, zi, zj, zk, zl, zm, zn, zo, dec_t, dec_f, ltI, leI, leN, le63, le40, le0, wrap64_id, wrapu64_id, wrap8_id]
          refine tr_nil (hK _ _ _ ?_)
          clear hK K hbase hfr base
          refine awp_ret ?_
          refine then_r ?_
          refine block_r ?_
          refine then_r ?_
          refine then_r ?_
          refine block_r ?_
          refine then_r ?_
          rw [show bCheck b = false by unfold bCheck; rw [show mOk b.ctx none b.live = false by rw [← h0, drop_cons_of hx, mOk, show mMay x = true by assumption, show cHas b.ctx x.d = false by cases hh : cHas b.ctx x.d <;> simp_all]; rfl]; simp]
          exact ⟨_, rfl, VW.refl _, fun _ _ h => h, fun _ h => h⟩
        · try simp only [yb, yc, yd, ye, yf, yg, yh, yi, yj, yk, yl, ym, yn, yo] at h7
          have hmay : mMay x = true := by assumption
          have hhas : cHas b.ctx x.d = true := by simp_all
          refine awp_skip ?_
          refine then_n ?_
          rcases q8 : decide ((0 : Int) < (i : Int)) with _ | _
          · skip
            refine awp_drawn_k (fun f => f == 160) (fun _ => false) (by kernel_rfl) (by decide) (by rw [hB]; rfl) fun K hK base hbase hfr => trd_run ?_
            try have hpos : (0 : Int) < (i : Int) := of_decide_eq_true (by assumption)
            simp (disch := omega) only [go_sem, ↓reduceIte, za, zb, zc, zd, ze, zf, zg, zh, zi, zj, zk, zl, zm, zn, zo, hx, hy, hip, q8, dec_t, dec_f, ltI, leI, leN, le63, le40, le0, wrap64_id, wrapu64_id, wrap8_id]
            refine trd_nil (hK _ _ _ ?_)
            clear hK K hbase hfr base
            try simp only [yb, yc, yd, ye, yf, yg, yh, yi, yj, yk, yl, ym, yn, yo] at q8
            refine awp_cond (rfl) (fun h9 => by cases h9) (fun h9 => ?_)
            refine awp_skip ?_
            refine block_n ?_
            refine then_n ?_
            refine awp_region_e (fun _ => false) (by rw [hB]; rfl) fun K hK base hbase hfr => tr_run ?_
            simp (disch := omega) only [go_sem, ↓reduceIte, za, zb, zc, zd, ze, zf, zg, zh, zi, zj, zk, zl, zm, zn, zo, dec_t, dec_f, ltI, leI, leN, le63, le40, le0, wrap64_id, wrapu64_id, wrap8_id]
            refine tr_nil (hK _ _ _ ?_)
            clear hK K hbase hfr base
            refine then_n ⟨i + 1, ?_, ?_, ?_, ?_, Sh.sub_refl _⟩
            · show mOk b.ctx (prevM b.live (i + 1)) (b.live.drop (i + 1)) = _
              rw [← h0, drop_cons_of hx, prevM_next hx, mOk, hmay, hhas, show i = 0 by omega]; rfl
            · show b.live.length - (i + 1) < b.live.length - i; omega
            · exact Env.subW_one rfl <| Env.subW_one rfl <| Env.subW_one rfl <| Env.subW_nil _
            · exact Boxes.subW_one rfl <| Boxes.subW_nil _
          · skip
            refine awp_drawn_k (fun f => f == 160) (fun _ => false) (by kernel_rfl) (by decide) (by rw [hB]; rfl) fun K hK base hbase hfr => trd_run ?_
            try have hpos : (0 : Int) < (i : Int) := of_decide_eq_true (by assumption)
            simp (disch := omega) only [go_sem, ↓reduceIte, za, zb, zc, zd, ze, zf, zg, zh, zi, zj, zk, zl, zm, zn, zo, hx, hy, hip, q8, dec_t, dec_f, ltI, leI, leN, le63, le40, le0, wrap64_id, wrapu64_id, wrap8_id]
            refine trd_pc (by kernel_rfl) (by simp only [go_sem, ↓reduceIte, za, zb, zc, zd, ze, zf, zg, zh, zi, zj, zk, zl, zm, zn, zo, hx, hy, hip, q8]) (by simp only [go_sem, ↓reduceIte, za, zb, zc, zd, ze, zf, zg, zh, zi, zj, zk, zl, zm, zn, zo, hx, hy, hip, q8] <;> rfl) (c160 y.d x.d) ?_
            simp (disch := omega) only [go_sem, ↓reduceIte, za, zb, zc, zd, ze, zf, zg, zh, zi, zj, zk, zl, zm, zn, zo, hx, hy, hip, q8, dec_t, dec_f, ltI, leI, leN, le63, le40, le0, wrap64_id, wrapu64_id, wrap8_id]
            refine trd_nil (hK _ _ _ ?_)
            clear hK K hbase hfr base
            try simp only [yb, yc, yd, ye, yf, yg, yh, yi, yj, yk, yl, ym, yn, yo] at q8
            refine awp_cond (rfl) (fun h10 => ?_) (fun h10 => ?_)
            · try simp only [yb, yc, yd, ye, yf, yg, yh, yi, yj, yk, yl, ym, yn, yo] at h10
              have hls : dLess y.d x.d = false := by cases hh : dLess y.d x.d <;> simp_all
              refine awp_region_k (fun _ => false) (by rw [hB]; rfl) fun K hK base hbase hfr => tr_run ?_
              simp (disch := omega) only [go_sem, ↓reduceIte, za, zb, zc, zd, ze, zf, zg, zh, zi, zj, zk, zl, zm, zn, zo, dec_t, dec_f, ltI, leI, leN, le63, le40, le0, wrap64_id, wrapu64_id, wrap8_id]
              refine tr_nil (hK _ _ _ ?_)
              clear hK K hbase hfr base
              refine awp_ret ?_
              refine block_r ?_
              refine then_r ?_
              refine then_r ?_
              refine block_r ?_
              refine then_r ?_
              rw [show bCheck b = false by unfold bCheck; rw [show mOk b.ctx none b.live = false by rw [← h0, drop_cons_of hx, mOk, hmay, hhas, prevM_pos hy (by omega)]; show (true && (true && (dLess y.d x.d && _))) = false; rw [hls]; rfl]; simp]
              exact ⟨_, rfl, VW.refl _, fun _ _ h => h, fun _ h => h⟩
            · try simp only [yb, yc, yd, ye, yf, yg, yh, yi, yj, yk, yl, ym, yn, yo] at h10
              have hls : dLess y.d x.d = true := by simp_all
              refine awp_skip ?_
              refine block_n ?_
              refine then_n ?_
              refine awp_region_e (fun _ => false) (by rw [hB]; rfl) fun K hK base hbase hfr => tr_run ?_
              simp (disch := omega) only [go_sem, ↓reduceIte, za, zb, zc, zd, ze, zf, zg, zh, zi, zj, zk, zl, zm, zn, zo, dec_t, dec_f, ltI, leI, leN, le63, le40, le0, wrap64_id, wrapu64_id, wrap8_id]
              refine tr_nil (hK _ _ _ ?_)
              clear hK K hbase hfr base
              refine then_n ⟨i + 1, ?_, ?_, ?_, ?_, Sh.sub_refl _⟩
              · show mOk b.ctx (prevM b.live (i + 1)) (b.live.drop (i + 1)) = _
                rw [← h0, drop_cons_of hx, prevM_next hx, mOk, hmay, hhas, prevM_pos hy (by omega)]
                show _ = (true && (true && (dLess y.d x.d && _)))
                rw [hls]; rfl
              · show b.live.length - (i + 1) < b.live.length - i; omega
              · exact Env.subW_one rfl <| Env.subW_one rfl <| Env.subW_one rfl <| Env.subW_nil _
              · exact Boxes.subW_one rfl <| Boxes.subW_nil _
    · try simp only [yb, yc, yd, ye, yf, yg, yh, yi, yj, yk, yl, ym, yn, yo] at h4
      refine awp_exit ?_
      refine then_x ?_
      refine then_x ?_
      refine block_x ?_
      refine then_n ?_
      refine awp_region_k (fun _ => false) (by rw [hB]; rfl) fun K hK base hbase hfr => tr_run ?_
      simp (disch := omega) only [go_sem, ↓reduceIte, za, zb, zc, zd, ze, zf, zg, zh, zi, zj, zk, zl, zm, zn, zo, dec_t, dec_f, ltI, leI, leN, le63, le40, le0, wrap64_id, wrapu64_id, wrap8_id]
      refine tr_nil (hK _ _ _ ?_)
      clear hK K hbase hfr base
      refine awp_ret ?_
      rw [show bCheck b = true by unfold bCheck; rw [q1, ← h0, get_le h4]; cases prevM b.live i <;> rfl]
      exact ⟨_, rfl, VW.refl _, fun _ _ h => h, fun _ h => h⟩
end Go.Am
namespace Go.Am
open Go
open Nat renaming reduceEqDiff → za, reduceAdd → zb, reduceMul → zc, reducePow → zd, reduceLeDiff → ze, reduceSub → zf, reduceBEq → zg, reduceBNe → zh, reduceDiv → zi, reduceMod → zj
open Int renaming reduceLT → zk, reduceLE → zl, reduceEq → zm, reduceNe → zn, reduceToNat → zo
def rM1 (r : Rd) : Rd := (rDot r).2
def rM2 (r : Rd) : Rd := (rText 1000 (rM1 r)).2
def rM3 (r : Rd) : Rd := (rText 1000 (rM2 r)).2
def rM4 (r : Rd) : Rd := (rInt 1048576 (rM3 r)).2
def rMsg (r : Rd) : Msg := ⟨(rDot r).1, (rText 1000 (rM1 r)).1, (rText 1000 (rM2 r)).1, (rInt 1048576 (rM3 r)).1⟩
def rBagGo : Nat → List Msg → Rd → List Msg × Rd
  | 0, out, r => (out, r)
  | k + 1, out, r => if r.torn = true then (out, r) else rBagGo k (out ++ [rMsg r]) (rM4 r)
theorem rBagGo_torn (k : Nat) (out : List Msg) (r : Rd) (h : r.torn = true) : rBagGo k out r = (out, r) := by
  cases k with
  | zero => rfl
  | succ k => rw [rBagGo, if_pos h]
def rBag0 (r : Rd) : List Msg × Rd := rBagGo (rInt 1000 (rCtx r).2).1.toNat [] (rInt 1000 (rCtx r).2).2
def rBagV (r : Rd) : Bag := ⟨(rBag0 r).1, (rCtx r).1⟩
def rBag (r : Rd) : Bag × Rd := if (rBag0 r).2.torn = true ∨ bCheck (rBagV r) = false then (bag0, ⟨(rBag0 r).2.s, true⟩) else (rBagV r, (rBag0 r).2)
theorem rBag_bad {r : Rd} (h : (rBag0 r).2.torn = true ∨ bCheck (rBagV r) = false) : rBag r = (bag0, ⟨(rBag0 r).2.s, true⟩) := if_pos h
theorem rBag_ok {r : Rd} (h1 : (rBag0 r).2.torn = false) (h2 : bCheck (rBagV r) = true) : rBag r = (rBagV r, (rBag0 r).2) := if_neg (by rw [h1, h2]; simp)
theorem rCtx_in (r : Rd) : ∀ d ∈ (rCtx r).1.base, 0 ≤ d.2 ∧ d.2 ≤ 4611686018427387904 := by
  unfold rCtx
  split
  · intro d hd; cases hd
  · exact rRow_in _ _
theorem c47 (σ : Sh) (oid : Nat) (r : Rd) (hσ : σ.ob oid = some (.cells (rdV r))) : WCalls Go.Proofs.Tryz.prog 47 [.ptr oid 0] σ (bagV (rBag r).1 .no .no .no) (σ.setOb oid (.cells (rdV (rBag r).2))) := by
  obtain ⟨hge, hle⟩ := rInt_le 1000 (rCtx r).2 (by decide)
  refine wcalls_of_awp Go.Proofs.Tryz.func47 rfl (by decide) (Nat.le_of_ble_eq_true rfl) ?_
  intro B hB ho hob
  refine awp_region_k (fun _ => false) (by rw [hB]; rfl) fun K hK base hbase hfr => tr_run ?_
  simp (disch := omega) only [go_sem, ↓reduceIte, za, zb, zc, zd, ze, zf, zg, zh, zi, zj, zk, zl, zm, zn, zo, dec_t, dec_f, ltI, leI, leN, le63, le40, le0, wrap64_id, wrapu64_id, wrap8_id]
  refine tr_nil (hK _ _ _ ?_)
  clear hK K hbase hfr base
  refine awp_region_k (fun _ => false) (by rw [hB]; rfl) fun K hK base hbase hfr => tr_run ?_
  simp (disch := omega) only [go_sem, ↓reduceIte, za, zb, zc, zd, ze, zf, zg, zh, zi, zj, zk, zl, zm, zn, zo, dec_t, dec_f, ltI, leI, leN, le63, le40, le0, wrap64_id, wrapu64_id, wrap8_id]
  refine tr_wc (by rfl) (by simp only [go_sem, ↓reduceIte, za, zb, zc, zd, ze, zf, zg, zh, zi, zj, zk, zl, zm, zn, zo] <;> rfl) (c105 σ oid r hσ) ?_
  simp (disch := omega) only [go_sem, ↓reduceIte, za, zb, zc, zd, ze, zf, zg, zh, zi, zj, zk, zl, zm, zn, zo, dec_t, dec_f, ltI, leI, leN, le63, le40, le0, wrap64_id, wrapu64_id, wrap8_id]
  refine tr_nil (hK _ _ _ ?_)
  clear hK K hbase hfr base
  refine awp_region_k (fun _ => false) (by rw [hB]; rfl) fun K hK base hbase hfr => tr_run ?_
  simp (disch := omega) only [go_sem, ↓reduceIte, za, zb, zc, zd, ze, zf, zg, zh, zi, zj, zk, zl, zm, zn, zo, dec_t, dec_f, ltI, leI, leN, le63, le40, le0, wrap64_id, wrapu64_id, wrap8_id]
  refine tr_wc (by rfl) (by simp only [go_sem, ↓reduceIte, za, zb, zc, zd, ze, zf, zg, zh, zi, zj, zk, zl, zm, zn, zo] <;> rfl) (c45 _ oid (rCtx r).2 _ (by decide) (by unfold I63; decide) (setOb_same _ _ _)) ?_
  simp (disch := omega) only [go_sem, ↓reduceIte, za, zb, zc, zd, ze, zf, zg, zh, zi, zj, zk, zl, zm, zn, zo, dec_t, dec_f, ltI, leI, leN, le63, le40, le0, wrap64_id, wrapu64_id, wrap8_id]
  refine tr_nil (hK _ _ _ ?_)
  clear hK K hbase hfr base
  refine awp_seq ?_
  refine awp_region_k (fun _ => false) (by rw [hB]; rfl) fun K hK base hbase hfr => tr_run ?_
  simp (disch := omega) only [go_sem, ↓reduceIte, za, zb, zc, zd, ze, zf, zg, zh, zi, zj, zk, zl, zm, zn, zo, dec_t, dec_f, ltI, leI, leN, le63, le40, le0, wrap64_id, wrapu64_id, wrap8_id]
  refine tr_nil (hK _ _ _ ?_)
  clear hK K hbase hfr base
  refine awp_block ?_
  refine awp_void2 fun v hv _ => awp_boxw 3 (ds := [.list [] (.tok v), .list ((rCtx r).1.base.map dot) .no, .list ((rCtx r).1.cloud.map dot) .no]) rfl (.cons (.tok v) (.cons (.refl _) (.cons (.refl _) .nil))) ?_
  refine awp_loop_w (α := Nat × List Msg × Nat × Rd) (fun x => rBagGo ((rInt 1000 (rCtx r).2).1.toNat - x.1) x.2.1 x.2.2.2 = rBag0 r ∧ x.2.1.length ≤ x.1 ∧ x.1 ≤ (rInt 1000 (rCtx r).2).1.toNat ∧ B.g.nt ≤ x.2.2.1) (fun x => [(0, .ptr oid 0), (2, .lref 2 0), (3, .lref 3 0), (4, .int .i64 (rInt 1000 (rCtx r).2).1), (5, .int .i64 x.1)]) (fun x => [(2, [.list [] .full, .list [] .full, .list [] .full]), (3, [.list (x.2.1.map msgV) (.tok x.2.2.1), .list ((rCtx r).1.base.map dot) .no, .list ((rCtx r).1.cloud.map dot) .no])]) (fun x => ({ σ with live := x.2.2.1 :: σ.live } : Sh).setOb oid (.cells (rdV x.2.2.2))) (fun x => (rInt 1000 (rCtx r).2).1.toNat - x.1) (0, [], v, (rInt 1000 (rCtx r).2).2) ?_ ?_ ?_ (Sh.sub_refl _) ?_
  · exact ⟨rfl, Nat.le_refl _, Nat.zero_le _, hv⟩
  · exact Env.subW_one rfl <| Env.subW_one rfl <| Env.subW_one rfl <| Env.subW_one rfl <| Env.subW_one rfl <| Env.subW_nil _
  · exact Boxes.subW_one rfl <| Boxes.subW_one rfl <| Boxes.subW_nil _
  rintro ⟨i, out, t, rr⟩ ⟨hG, ho1, ho2, ht⟩
  try dsimp only at hG ho1 ho2 ht
  refine awp_seq ?_
  rcases q1 : decide ((i : Int) < (rInt 1000 (rCtx r).2).1) with _ | _
  · skip
    refine awp_region_k (fun _ => false) (by rw [hB]; rfl) fun K hK base hbase hfr => tr_run ?_
    simp (disch := omega) only [go_sem, ↓reduceIte, za, zb, zc, zd, ze, zf, zg, zh, zi, zj, zk, zl, zm, zn, zo, q1, dec_t, dec_f, ltI, leI, leN, le63, le40, le0, wrap64_id, wrapu64_id, wrap8_id]
    refine tr_nil (hK _ _ _ ?_)
    clear hK K hbase hfr base
    try simp only [yb, yc, yd, ye, yf, yg, yh, yi, yj, yk, yl, ym, yn, yo] at q1
    refine awp_cond (rfl) (fun h2 => by cases h2) (fun h2 => ?_)
    refine awp_exit ?_
    refine then_x ?_
    refine then_x ?_
    refine block_x ?_
    refine then_n ?_
    have hres : rBag0 r = (out, rr) := by rw [← hG, show (rInt 1000 (rCtx r).2).1.toNat - i = 0 by omega]; rfl
    refine awp_seq ?_
    rcases q3 : rr.torn with _ | _
    · skip
      refine awp_region_k (fun _ => false) (by rw [hB]; rfl) fun K hK base hbase hfr => tr_run ?_
      simp (disch := omega) only [go_sem, ↓reduceIte, za, zb, zc, zd, ze, zf, zg, zh, zi, zj, zk, zl, zm, zn, zo, q3, dec_t, dec_f, ltI, leI, leN, le63, le40, le0, wrap64_id, wrapu64_id, wrap8_id]
      refine tr_pc (by simp only [go_sem, ↓reduceIte, za, zb, zc, zd, ze, zf, zg, zh, zi, zj, zk, zl, zm, zn, zo, q3]) (by simp only [go_sem, ↓reduceIte, za, zb, zc, zd, ze, zf, zg, zh, zi, zj, zk, zl, zm, zn, zo, q3] <;> rfl) (c108 ⟨out, (rCtx r).1⟩ (.tok t) .no .no (rCtx_in r)) ?_
      simp (disch := omega) only [go_sem, ↓reduceIte, za, zb, zc, zd, ze, zf, zg, zh, zi, zj, zk, zl, zm, zn, zo, q3, dec_t, dec_f, ltI, leI, leN, le63, le40, le0, wrap64_id, wrapu64_id, wrap8_id]
      refine tr_nil (hK _ _ _ ?_)
      clear hK K hbase hfr base
      try simp only [yb, yc, yd, ye, yf, yg, yh, yi, yj, yk, yl, ym, yn, yo] at q3
      refine awp_cond (rfl) (fun h4 => ?_) (fun h4 => ?_)
      · try simp only [yb, yc, yd, ye, yf, yg, yh, yi, yj, yk, yl, ym, yn, yo] at h4
        refine awp_region_k (fun _ => false) (by rw [hB]; rfl) fun K hK base hbase hfr => tr_run ?_
        simp (disch := omega) only [go_sem, ↓reduceIte, za, zb, zc, zd, ze, zf, zg, zh, zi, zj, zk, zl, zm, zn, zo, dec_t, dec_f, ltI, leI, leN, le63, le40, le0, wrap64_id, wrapu64_id, wrap8_id]
        refine tr_nil (hK _ _ _ ?_)
        clear hK K hbase hfr base
        refine awp_region_k (fun _ => false) (by rw [hB]; rfl) fun K hK base hbase hfr => tr_run ?_
        simp (disch := omega) only [go_sem, ↓reduceIte, za, zb, zc, zd, ze, zf, zg, zh, zi, zj, zk, zl, zm, zn, zo, dec_t, dec_f, ltI, leI, leN, le63, le40, le0, wrap64_id, wrapu64_id, wrap8_id]
        refine tr_nil (hK _ _ _ ?_)
        clear hK K hbase hfr base
        refine awp_ret ?_
        refine then_r ?_
        have hv2 : rBagV r = ⟨out, (rCtx r).1⟩ := by unfold rBagV; rw [hres]
        have e : bCheck (rBagV r) = false := by rw [hv2]; cases hh : bCheck ⟨out, (rCtx r).1⟩ <;> simp_all
        rw [rBag_bad (.inr e), hres]
        exact ⟨_, rfl, .one (.agg (.cons (.no _ _) (.cons (.no _ _) (.cons (.no _ _) .nil)))), fun _ _ h => h, fun _ h => List.mem_cons_of_mem _ h⟩
      · try simp only [yb, yc, yd, ye, yf, yg, yh, yi, yj, yk, yl, ym, yn, yo] at h4
        refine awp_skip ?_
        refine then_n ?_
        refine awp_region_k (fun _ => false) (by rw [hB]; rfl) fun K hK base hbase hfr => tr_run ?_
        simp (disch := omega) only [go_sem, ↓reduceIte, za, zb, zc, zd, ze, zf, zg, zh, zi, zj, zk, zl, zm, zn, zo, dec_t, dec_f, ltI, leI, leN, le63, le40, le0, wrap64_id, wrapu64_id, wrap8_id]
        refine tr_nil (hK _ _ _ ?_)
        clear hK K hbase hfr base
        refine awp_ret ?_
        have hv2 : rBagV r = ⟨out, (rCtx r).1⟩ := by unfold rBagV; rw [hres]
        have e : bCheck (rBagV r) = true := by rw [hv2]; cases hh : bCheck ⟨out, (rCtx r).1⟩ <;> simp_all
        have e2 : rr.torn = false := by assumption
        rw [rBag_ok (by rw [hres]; exact e2) e, hres, hv2, show rdV ((⟨out, (rCtx r).1⟩, (out, rr).2) : Bag × Rd).2 = [.str rr.s, .bool false] by rw [← e2]; rfl]
        exact ⟨_, rfl, .one (.agg (.cons (.no _ _) (.cons (.no _ _) (.cons (.no _ _) .nil)))), fun _ _ h => h, fun _ h => List.mem_cons_of_mem _ h⟩
    · skip
      refine awp_region_k (fun _ => false) (by rw [hB]; rfl) fun K hK base hbase hfr => tr_run ?_
      simp (disch := omega) only [go_sem, ↓reduceIte, za, zb, zc, zd, ze, zf, zg, zh, zi, zj, zk, zl, zm, zn, zo, q3, dec_t, dec_f, ltI, leI, leN, le63, le40, le0, wrap64_id, wrapu64_id, wrap8_id]
      refine tr_nil (hK _ _ _ ?_)
      clear hK K hbase hfr base
      try simp only [yb, yc, yd, ye, yf, yg, yh, yi, yj, yk, yl, ym, yn, yo] at q3
      refine awp_cond (rfl) (fun h5 => ?_) (fun h5 => by cases h5)
      refine awp_region_k (fun _ => false) (by rw [hB]; rfl) fun K hK base hbase hfr => tr_run ?_
      simp (disch := omega) only [go_sem, ↓reduceIte, za, zb, zc, zd, ze, zf, zg, zh, zi, zj, zk, zl, zm, zn, zo, dec_t, dec_f, ltI, leI, leN, le63, le40, le0, wrap64_id, wrapu64_id, wrap8_id]
      refine tr_nil (hK _ _ _ ?_)
      clear hK K hbase hfr base
      refine awp_region_k (fun _ => false) (by rw [hB]; rfl) fun K hK base hbase hfr => tr_run ?_
      simp (disch := omega) only [go_sem, ↓reduceIte, za, zb, zc, zd, ze, zf, zg, zh, zi, zj, zk, zl, zm, zn, zo, dec_t, dec_f, ltI, leI, leN, le63, le40, le0, wrap64_id, wrapu64_id, wrap8_id]
      refine tr_nil (hK _ _ _ ?_)
      clear hK K hbase hfr base
      refine awp_ret ?_
      refine then_r ?_
      rw [rBag_bad (.inl (by rw [hres]; assumption)), hres]
      exact ⟨_, rfl, .one (.agg (.cons (.no _ _) (.cons (.no _ _) (.cons (.no _ _) .nil)))), fun _ _ h => h, fun _ h => List.mem_cons_of_mem _ h⟩
  · skip
    refine awp_region_k (fun _ => false) (by rw [hB]; rfl) fun K hK base hbase hfr => tr_run ?_
    simp (disch := omega) only [go_sem, ↓reduceIte, za, zb, zc, zd, ze, zf, zg, zh, zi, zj, zk, zl, zm, zn, zo, q1, dec_t, dec_f, ltI, leI, leN, le63, le40, le0, wrap64_id, wrapu64_id, wrap8_id]
    refine tr_nil (hK _ _ _ ?_)
    clear hK K hbase hfr base
    try simp only [yb, yc, yd, ye, yf, yg, yh, yi, yj, yk, yl, ym, yn, yo] at q1
    refine awp_cond (rfl) (fun h6 => ?_) (fun h6 => ?_)
    · try simp only [yb, yc, yd, ye, yf, yg, yh, yi, yj, yk, yl, ym, yn, yo] at h6
      have htn : rr.torn = false := by cases hh : rr.torn <;> simp_all
      refine awp_skip ?_
      refine then_n ?_
      refine awp_seq ?_
      refine awp_block ?_
      refine awp_region_k (fun _ => false) (by rw [hB]; rfl) fun K hK base hbase hfr => tr_run ?_
      simp (disch := omega) only [go_sem, ↓reduceIte, za, zb, zc, zd, ze, zf, zg, zh, zi, zj, zk, zl, zm, zn, zo, dec_t, dec_f, ltI, leI, leN, le63, le40, le0, wrap64_id, wrapu64_id, wrap8_id]
      refine tr_wc (by rfl) (by simp only [go_sem, ↓reduceIte, za, zb, zc, zd, ze, zf, zg, zh, zi, zj, zk, zl, zm, zn, zo] <;> rfl) (c106 _ oid rr (setOb_same _ _ _)) ?_
      simp (disch := omega) only [go_sem, ↓reduceIte, za, zb, zc, zd, ze, zf, zg, zh, zi, zj, zk, zl, zm, zn, zo, dec_t, dec_f, ltI, leI, leN, le63, le40, le0, wrap64_id, wrapu64_id, wrap8_id]
      refine tr_nil (hK _ _ _ ?_)
      clear hK K hbase hfr base
      refine awp_region_k (fun _ => false) (by rw [hB]; rfl) fun K hK base hbase hfr => tr_run ?_
      simp (disch := omega) only [go_sem, ↓reduceIte, za, zb, zc, zd, ze, zf, zg, zh, zi, zj, zk, zl, zm, zn, zo, dec_t, dec_f, ltI, leI, leN, le63, le40, le0, wrap64_id, wrapu64_id, wrap8_id]
      refine tr_wc (by rfl) (by simp only [go_sem, ↓reduceIte, za, zb, zc, zd, ze, zf, zg, zh, zi, zj, zk, zl, zm, zn, zo] <;> rfl) (c107 _ oid (rM1 rr) _ (by decide) (by unfold I63; decide) (setOb_same _ _ _)) ?_
      simp (disch := omega) only [go_sem, ↓reduceIte, za, zb, zc, zd, ze, zf, zg, zh, zi, zj, zk, zl, zm, zn, zo, dec_t, dec_f, ltI, leI, leN, le63, le40, le0, wrap64_id, wrapu64_id, wrap8_id]
      refine tr_nil (hK _ _ _ ?_)
      clear hK K hbase hfr base
      refine awp_region_k (fun _ => false) (by rw [hB]; rfl) fun K hK base hbase hfr => tr_run ?_
      simp (disch := omega) only [go_sem, ↓reduceIte, za, zb, zc, zd, ze, zf, zg, zh, zi, zj, zk, zl, zm, zn, zo, dec_t, dec_f, ltI, leI, leN, le63, le40, le0, wrap64_id, wrapu64_id, wrap8_id]
      refine tr_wc (by rfl) (by simp only [go_sem, ↓reduceIte, za, zb, zc, zd, ze, zf, zg, zh, zi, zj, zk, zl, zm, zn, zo] <;> rfl) (c107 _ oid (rM2 rr) _ (by decide) (by unfold I63; decide) (setOb_same _ _ _)) ?_
      simp (disch := omega) only [go_sem, ↓reduceIte, za, zb, zc, zd, ze, zf, zg, zh, zi, zj, zk, zl, zm, zn, zo, dec_t, dec_f, ltI, leI, leN, le63, le40, le0, wrap64_id, wrapu64_id, wrap8_id]
      refine tr_nil (hK _ _ _ ?_)
      clear hK K hbase hfr base
      refine awp_region_k (fun _ => false) (by rw [hB]; rfl) fun K hK base hbase hfr => tr_run ?_
      simp (disch := omega) only [go_sem, ↓reduceIte, za, zb, zc, zd, ze, zf, zg, zh, zi, zj, zk, zl, zm, zn, zo, dec_t, dec_f, ltI, leI, leN, le63, le40, le0, wrap64_id, wrapu64_id, wrap8_id]
      refine tr_wc (by rfl) (by simp only [go_sem, ↓reduceIte, za, zb, zc, zd, ze, zf, zg, zh, zi, zj, zk, zl, zm, zn, zo] <;> rfl) (c45 _ oid (rM3 rr) _ (by decide) (by unfold I63; decide) (setOb_same _ _ _)) ?_
      simp (disch := omega) only [go_sem, ↓reduceIte, za, zb, zc, zd, ze, zf, zg, zh, zi, zj, zk, zl, zm, zn, zo, dec_t, dec_f, ltI, leI, leN, le63, le40, le0, wrap64_id, wrapu64_id, wrap8_id]
      refine tr_nil (hK _ _ _ ?_)
      clear hK K hbase hfr base
      refine awp_region_e (fun _ => false) (by rw [hB]; rfl) fun K hK base hbase hfr => tr_run ?_
      simp (disch := omega) only [go_sem, ↓reduceIte, za, zb, zc, zd, ze, zf, zg, zh, zi, zj, zk, zl, zm, zn, zo, ho, dec_t, dec_f, ltI, leI, leN, le63, le40, le0, wrap64_id, wrapu64_id, wrap8_id]
      refine tr_nil (hK _ _ _ ?_)
      clear hK K hfr
      refine block_n ?_
      refine then_n ?_
      refine awp_region_e (fun _ => false) (by rw [hB]; rfl) fun K hK base hbase hfr => tr_run ?_
      simp (disch := omega) only [go_sem, ↓reduceIte, za, zb, zc, zd, ze, zf, zg, zh, zi, zj, zk, zl, zm, zn, zo, dec_t, dec_f, ltI, leI, leN, le63, le40, le0, wrap64_id, wrapu64_id, wrap8_id]
      refine tr_nil (hK _ _ _ ?_)
      clear hK K hbase hfr base
      refine then_n ⟨(i + 1, out ++ [rMsg rr], base + 4, rM4 rr), ?_, ?_, ?_, ?_, ⟨fun _ _ h => h, fun _ h => h⟩⟩
      · refine ⟨?_, ?_, ?_, Nat.le_trans hbase (Nat.le_add_right _ _)⟩
        · show rBagGo ((rInt 1000 (rCtx r).2).1.toNat - (i + 1)) (out ++ [rMsg rr]) (rM4 rr) = _
          rw [← hG, show (rInt 1000 (rCtx r).2).1.toNat - i = ((rInt 1000 (rCtx r).2).1.toNat - (i + 1)) + 1 by omega, rBagGo, if_neg (by rw [htn]; decide)]
        · show (out ++ [rMsg rr]).length ≤ i + 1; simp only [List.length_append, List.length_cons, List.length_nil]; omega
        · show i + 1 ≤ _; omega
      · show (rInt 1000 (rCtx r).2).1.toNat - (i + 1) < (rInt 1000 (rCtx r).2).1.toNat - i; omega
      · exact Env.subW_one rfl <| Env.subW_one rfl <| Env.subW_one rfl <| Env.subW_one rfl <| Env.subW_one rfl <| Env.subW_nil _
      · exact Boxes.subW_one rfl <| Boxes.subW_cons rfl (.cons (vw0_tok (by simp only [List.map_append, List.map_cons, List.map_nil]; rfl) rfl) (.cons (.refl _) (.cons (.refl _) .nil))) <| Boxes.subW_nil _
    · try simp only [yb, yc, yd, ye, yf, yg, yh, yi, yj, yk, yl, ym, yn, yo] at h6
      have htn : rr.torn = true := by cases hh : rr.torn <;> simp_all
      refine awp_exit ?_
      refine then_x ?_
      refine then_x ?_
      refine block_x ?_
      refine then_n ?_
      have hres : rBag0 r = (out, rr) := by rw [← hG, rBagGo_torn _ _ _ htn]
      refine awp_seq ?_
      rcases q7 : rr.torn with _ | _
      · skip
        refine awp_region_k (fun _ => false) (by rw [hB]; rfl) fun K hK base hbase hfr => tr_run ?_
        simp (disch := omega) only [go_sem, ↓reduceIte, za, zb, zc, zd, ze, zf, zg, zh, zi, zj, zk, zl, zm, zn, zo, q7, dec_t, dec_f, ltI, leI, leN, le63, le40, le0, wrap64_id, wrapu64_id, wrap8_id]
        refine tr_pc (by simp only [go_sem, ↓reduceIte, za, zb, zc, zd, ze, zf, zg, zh, zi, zj, zk, zl, zm, zn, zo, q7]) (by simp only [go_sem, ↓reduceIte, za, zb, zc, zd, ze, zf, zg, zh, zi, zj, zk, zl, zm, zn, zo, q7] <;> rfl) (c108 ⟨out, (rCtx r).1⟩ (.tok t) .no .no (rCtx_in r)) ?_
        simp (disch := omega) only [go_sem, ↓reduceIte, za, zb, zc, zd, ze, zf, zg, zh, zi, zj, zk, zl, zm, zn, zo, q7, dec_t, dec_f, ltI, leI, leN, le63, le40, le0, wrap64_id, wrapu64_id, wrap8_id]
        refine tr_nil (hK _ _ _ ?_)
        clear hK K hbase hfr base
        try simp only [yb, yc, yd, ye, yf, yg, yh, yi, yj, yk, yl, ym, yn, yo] at q7
        refine awp_cond (rfl) (fun h8 => ?_) (fun h8 => ?_)
        · try simp only [yb, yc, yd, ye, yf, yg, yh, yi, yj, yk, yl, ym, yn, yo] at h8
          refine awp_region_k (fun _ => false) (by rw [hB]; rfl) fun K hK base hbase hfr => tr_run ?_
          simp (disch := omega) only [go_sem, ↓reduceIte, za, zb, zc, zd, ze, zf, zg, zh, zi, zj, zk, zl, zm, zn, zo, dec_t, dec_f, ltI, leI, leN, le63, le40, le0, wrap64_id, wrapu64_id, wrap8_id]
          refine tr_nil (hK _ _ _ ?_)
          clear hK K hbase hfr base
          refine awp_region_k (fun _ => false) (by rw [hB]; rfl) fun K hK base hbase hfr => tr_run ?_
          simp (disch := omega) only [go_sem, ↓reduceIte, za, zb, zc, zd, ze, zf, zg, zh, zi, zj, zk, zl, zm, zn, zo, dec_t, dec_f, ltI, leI, leN, le63, le40, le0, wrap64_id, wrapu64_id, wrap8_id]
          refine tr_nil (hK _ _ _ ?_)
          clear hK K hbase hfr base
          refine awp_ret ?_
          refine then_r ?_
          have hv2 : rBagV r = ⟨out, (rCtx r).1⟩ := by unfold rBagV; rw [hres]
          have e : bCheck (rBagV r) = false := by rw [hv2]; cases hh : bCheck ⟨out, (rCtx r).1⟩ <;> simp_all
          rw [rBag_bad (.inr e), hres]
          exact ⟨_, rfl, .one (.agg (.cons (.no _ _) (.cons (.no _ _) (.cons (.no _ _) .nil)))), fun _ _ h => h, fun _ h => List.mem_cons_of_mem _ h⟩
        · try simp only [yb, yc, yd, ye, yf, yg, yh, yi, yj, yk, yl, ym, yn, yo] at h8
          refine awp_skip ?_
          refine then_n ?_
          refine awp_region_k (fun _ => false) (by rw [hB]; rfl) fun K hK base hbase hfr => tr_run ?_
          simp (disch := omega) only [go_sem, ↓reduceIte, za, zb, zc, zd, ze, zf, zg, zh, zi, zj, zk, zl, zm, zn, zo, dec_t, dec_f, ltI, leI, leN, le63, le40, le0, wrap64_id, wrapu64_id, wrap8_id]
          refine tr_nil (hK _ _ _ ?_)
          clear hK K hbase hfr base
          refine awp_ret ?_
          have hv2 : rBagV r = ⟨out, (rCtx r).1⟩ := by unfold rBagV; rw [hres]
          have e : bCheck (rBagV r) = true := by rw [hv2]; cases hh : bCheck ⟨out, (rCtx r).1⟩ <;> simp_all
          have e2 : rr.torn = false := by assumption
          rw [rBag_ok (by rw [hres]; exact e2) e, hres, hv2, show rdV ((⟨out, (rCtx r).1⟩, (out, rr).2) : Bag × Rd).2 = [.str rr.s, .bool false] by rw [← e2]; rfl]
          exact ⟨_, rfl, .one (.agg (.cons (.no _ _) (.cons (.no _ _) (.cons (.no _ _) .nil)))), fun _ _ h => h, fun _ h => List.mem_cons_of_mem _ h⟩
      · skip
        refine awp_region_k (fun _ => false) (by rw [hB]; rfl) fun K hK base hbase hfr => tr_run ?_
        simp (disch := omega) only [go_sem, ↓reduceIte, za, zb, zc, zd, ze, zf, zg, zh, zi, zj, zk, zl, zm, zn, zo, q7, dec_t, dec_f, ltI, leI, leN, le63, le40, le0, wrap64_id, wrapu64_id, wrap8_id]
        refine tr_nil (hK _ _ _ ?_)
        clear hK K hbase hfr base
        try simp only [yb, yc, yd, ye, yf, yg, yh, yi, yj, yk, yl, ym, yn, yo] at q7
        refine awp_cond (rfl) (fun h9 => ?_) (fun h9 => by cases h9)
        refine awp_region_k (fun _ => false) (by rw [hB]; rfl) fun K hK base hbase hfr => tr_run ?_
        simp (disch := omega) only [go_sem, ↓reduceIte, za, zb, zc, zd, ze, zf, zg, zh, zi, zj, zk, zl, zm, zn, zo, dec_t, dec_f, ltI, leI, leN, le63, le40, le0, wrap64_id, wrapu64_id, wrap8_id]
        refine tr_nil (hK _ _ _ ?_)
        clear hK K hbase hfr base
        refine awp_region_k (fun _ => false) (by rw [hB]; rfl) fun K hK base hbase hfr => tr_run ?_
        simp (disch := omega) only [go_sem, ↓reduceIte, za, zb, zc, zd, ze, zf, zg, zh, zi, zj, zk, zl, zm, zn, zo, dec_t, dec_f, ltI, leI, leN, le63, le40, le0, wrap64_id, wrapu64_id, wrap8_id]
        refine tr_nil (hK _ _ _ ?_)
        clear hK K hbase hfr base
        refine awp_ret ?_
        refine then_r ?_
        rw [rBag_bad (.inl (by rw [hres]; assumption)), hres]
        exact ⟨_, rfl, .one (.agg (.cons (.no _ _) (.cons (.no _ _) (.cons (.no _ _) .nil)))), fun _ _ h => h, fun _ h => List.mem_cons_of_mem _ h⟩
end Go.Am
