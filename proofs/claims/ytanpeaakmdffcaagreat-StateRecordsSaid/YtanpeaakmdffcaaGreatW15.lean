/- What functions of this program compute, a part: see the main text. No conditions. -/
import Derived.Test.YtanpeaakmdffcaaGreatW14
set_option linter.all false
set_option maxRecDepth 100000
namespace Go.Am
open Go
open Nat renaming reduceEqDiff → za, reduceAdd → zb, reduceMul → zc, reducePow → zd, reduceLeDiff → ze, reduceSub → zf, reduceBEq → zg, reduceBNe → zh, reduceDiv → zi, reduceMod → zj
open Int renaming reduceLT → zk, reduceLE → zl, reduceEq → zm, reduceNe → zn, reduceToNat → zo
def insPos (x : Int × Int) (out : List (Int × Int)) : Nat → Nat
  | 0 => 0
  | k + 1 => if dLess x (out.getD k (0, 0)) then insPos x out k else k + 1
theorem insPos_le (x : Int × Int) (out : List (Int × Int)) : ∀ k, insPos x out k ≤ k
  | 0 => Nat.le_refl _
  | k + 1 => by
    unfold insPos
    split
    · exact Nat.le_succ_of_le (insPos_le x out k)
    · exact Nat.le_refl _
def dIns (x : Int × Int) (out : List (Int × Int)) : List (Int × Int) := out.take (insPos x out out.length) ++ [x] ++ out.drop (insPos x out out.length)
def dSortGo (out : List (Int × Int)) : List (Int × Int) → List (Int × Int)
  | [] => out
  | x :: l => if dHas out x then dSortGo out l else dSortGo (dIns x out) l
def dSort (l : List (Int × Int)) : List (Int × Int) := dSortGo [] l
theorem dIns_length (x : Int × Int) (out : List (Int × Int)) : (dIns x out).length = out.length + 1 := by
  have := insPos_le x out out.length
  simp only [dIns, List.length_append, List.length_take, List.length_drop, List.length_cons, List.length_nil]
  omega
theorem dSortGo_length : ∀ (l out : List (Int × Int)), (dSortGo out l).length ≤ out.length + l.length
  | [], out => Nat.le_refl _
  | x :: l, out => by
    unfold dSortGo
    split
    · have := dSortGo_length l out
      simp only [List.length_cons]; omega
    · have := dSortGo_length l (dIns x out)
      rw [dIns_length] at this
      simp only [List.length_cons]; omega
theorem dSort_length (l : List (Int × Int)) : (dSort l).length ≤ l.length := by
  have := dSortGo_length l []
  simpa [dSort] using this
theorem getD_of2 {α : Type} {l : List α} {i : Nat} {x d : α} (h : l[i]? = some x) : l.getD i d = x := by simp [List.getD, h]
theorem c156 (l : List (Int × Int)) (tg : Tag) (hl : l.length ≤ 549755813888) : PCalls Go.Proofs.Tryz.prog 156 [dots l tg] (.list ((dSort l).map dot) .no) := by
  refine pcalls_of_awp Go.Proofs.Tryz.func156 rfl (by decide) (Nat.le_of_ble_eq_true rfl) ?_
  intro B σ hB ho hob
  refine awp_region_k (fun _ => false) (by rw [hB]; rfl) fun K hK base hbase hfr => tr_run ?_
  simp (disch := omega) only [go_sem, ↓reduceIte, za, zb, zc, zd, ze, zf, zg, zh, zi, zj, zk, zl, zm, zn, zo, dec_t, dec_f, ltI, leI, leN, le63, le40, le0, wrap64_id, wrapu64_id, wrap8_id]
  refine tr_nil (hK _ _ _ ?_)
  clear hK K hbase hfr base
  refine awp_region_k (fun _ => false) (by rw [hB]; rfl) fun K hK base hbase hfr => tr_run ?_
  simp (disch := omega) only [go_sem, ↓reduceIte, za, zb, zc, zd, ze, zf, zg, zh, zi, zj, zk, zl, zm, zn, zo, dec_t, dec_f, ltI, leI, leN, le63, le40, le0, wrap64_id, wrapu64_id, wrap8_id]
  refine tr_nil (hK _ _ _ ?_)
  clear hK K hbase hfr base
  refine awp_seq ?_
  refine awp_region_k (fun _ => false) (by rw [hB]; rfl) fun K hK base hbase hfr => tr_run ?_
  simp (disch := omega) only [go_sem, ↓reduceIte, za, zb, zc, zd, ze, zf, zg, zh, zi, zj, zk, zl, zm, zn, zo, dec_t, dec_f, ltI, leI, leN, le63, le40, le0, wrap64_id, wrapu64_id, wrap8_id]
  refine tr_nil (hK _ _ _ ?_)
  clear hK K hbase hfr base
  refine awp_block ?_
  refine awp_loop_w (α := Nat × List (Int × Int)) (fun x => dSortGo x.2 (l.drop x.1) = dSort l ∧ x.2.length ≤ x.1) (fun x => [(0, dots l tg), (3, .list (x.2.map dot) .no), (4, .int .i64 x.1)]) (fun x => []) (fun x => σ) (fun x => l.length - x.1) (0, []) ?_ ?_ (Boxes.subW_nil _) (Sh.sub_refl _) ?_
  · exact ⟨rfl, Nat.le_refl _⟩
  · exact Env.subW_one rfl <| Env.subW_cons rfl (.one (.no _ _)) <| Env.subW_one rfl <| Env.subW_nil _
  rintro ⟨i, out⟩ ⟨h0, ho1⟩
  try dsimp only at h0 ho1
  refine awp_seq ?_
  refine awp_region_k (fun _ => false) (by rw [hB]; rfl) fun K hK base hbase hfr => tr_run ?_
  simp (disch := omega) only [go_sem, ↓reduceIte, za, zb, zc, zd, ze, zf, zg, zh, zi, zj, zk, zl, zm, zn, zo, dec_t, dec_f, ltI, leI, leN, le63, le40, le0, wrap64_id, wrapu64_id, wrap8_id]
  refine tr_nil (hK _ _ _ ?_)
  clear hK K hbase hfr base
  refine awp_cond (rfl) (fun h1 => ?_) (fun h1 => ?_)
  · try simp only [yb, yc, yd, ye, yf, yg, yh, yi, yj, yk, yl, ym, yn, yo] at h1
    obtain ⟨x, hx, hm, hi⟩ := get_of_lt h1
    refine awp_skip ?_
    refine then_n ?_
    refine awp_seq ?_
    refine awp_block ?_
    refine awp_region_k (fun _ => false) (by rw [hB]; rfl) fun K hK base hbase hfr => tr_run ?_
    simp (disch := omega) only [go_sem, ↓reduceIte, za, zb, zc, zd, ze, zf, zg, zh, zi, zj, zk, zl, zm, zn, zo, hx, dec_t, dec_f, ltI, leI, leN, le63, le40, le0, wrap64_id, wrapu64_id, wrap8_id]
    refine tr_pc (by rfl) (by simp only [go_sem, ↓reduceIte, za, zb, zc, zd, ze, zf, zg, zh, zi, zj, zk, zl, zm, zn, zo, hx] <;> rfl) (c155 out .no x) ?_
    simp (disch := omega) only [go_sem, ↓reduceIte, za, zb, zc, zd, ze, zf, zg, zh, zi, zj, zk, zl, zm, zn, zo, hx, dec_t, dec_f, ltI, leI, leN, le63, le40, le0, wrap64_id, wrapu64_id, wrap8_id]
    refine tr_nil (hK _ _ _ ?_)
    clear hK K hbase hfr base
    refine awp_seq ?_
    refine awp_region_k (fun _ => false) (by rw [hB]; rfl) fun K hK base hbase hfr => tr_run ?_
    simp (disch := omega) only [go_sem, ↓reduceIte, za, zb, zc, zd, ze, zf, zg, zh, zi, zj, zk, zl, zm, zn, zo, dec_t, dec_f, ltI, leI, leN, le63, le40, le0, wrap64_id, wrapu64_id, wrap8_id]
    refine tr_nil (hK _ _ _ ?_)
    clear hK K hbase hfr base
    refine awp_cond (rfl) (fun h2 => ?_) (fun h2 => ?_)
    · try simp only [yb, yc, yd, ye, yf, yg, yh, yi, yj, yk, yl, ym, yn, yo] at h2
      refine awp_exit ?_
      refine then_x ?_
      refine block_x ?_
      refine then_n ?_
      refine awp_region_e (fun _ => false) (by rw [hB]; rfl) fun K hK base hbase hfr => tr_run ?_
      simp (disch := omega) only [go_sem, ↓reduceIte, za, zb, zc, zd, ze, zf, zg, zh, zi, zj, zk, zl, zm, zn, zo, dec_t, dec_f, ltI, leI, leN, le63, le40, le0, wrap64_id, wrapu64_id, wrap8_id]
      refine tr_nil (hK _ _ _ ?_)
      clear hK K hbase hfr base
      refine then_n ⟨(i + 1, out), ?_, ?_, ?_, ?_, ⟨fun _ _ h => h, fun _ h => by first | exact h | exact List.mem_cons_of_mem _ h⟩⟩
      · refine ⟨?_, Nat.le_succ_of_le ho1⟩
        show dSortGo out (l.drop (i + 1)) = dSort l
        rw [← h0, drop_cons_of hx, dSortGo, if_pos h2]
      · show l.length - (i + 1) < l.length - i; omega
      · exact Env.subW_one rfl <| Env.subW_cons rfl (by first | exact (.one (.refl _)) | exact vw_no (by simp only [List.map_append, List.map_cons, List.map_nil]; rfl)) <| Env.subW_one rfl <| Env.subW_nil _
      · exact Boxes.subW_nil _
    · try simp only [yb, yc, yd, ye, yf, yg, yh, yi, yj, yk, yl, ym, yn, yo] at h2
      refine awp_skip ?_
      refine then_n ?_
      refine awp_region_k (fun _ => false) (by rw [hB]; rfl) fun K hK base hbase hfr => tr_run ?_
      simp (disch := omega) only [go_sem, ↓reduceIte, za, zb, zc, zd, ze, zf, zg, zh, zi, zj, zk, zl, zm, zn, zo, dec_t, dec_f, ltI, leI, leN, le63, le40, le0, wrap64_id, wrapu64_id, wrap8_id]
      refine tr_nil (hK _ _ _ ?_)
      clear hK K hbase hfr base
      refine awp_seq ?_
      refine awp_block ?_
      refine awp_loop_w (α := Nat) (fun y => insPos x out y = insPos x out out.length ∧ y ≤ out.length) (fun y => [(0, dots l tg), (3, .list (out.map dot) .no), (4, .int .i64 i), (6, .int .i64 y)]) (fun y => []) (fun y => σ) (fun y => y) out.length ?_ ?_ (Boxes.subW_nil _) (Sh.sub_refl _) ?_
      · exact ⟨rfl, Nat.le_refl _⟩
      · exact Env.subW_one rfl <| Env.subW_one rfl <| Env.subW_one rfl <| Env.subW_one rfl <| Env.subW_nil _
      rintro k ⟨hp, hk1⟩
      try dsimp only at hp hk1
      refine awp_seq ?_
      refine awp_region_k (fun _ => false) (by rw [hB]; rfl) fun K hK base hbase hfr => tr_run ?_
      simp (disch := omega) only [go_sem, ↓reduceIte, za, zb, zc, zd, ze, zf, zg, zh, zi, zj, zk, zl, zm, zn, zo, dec_t, dec_f, ltI, leI, leN, le63, le40, le0, wrap64_id, wrapu64_id, wrap8_id]
      refine tr_nil (hK _ _ _ ?_)
      clear hK K hbase hfr base
      refine awp_cond (rfl) (fun h3 => ?_) (fun h3 => ?_)
      · try simp only [yb, yc, yd, ye, yf, yg, yh, yi, yj, yk, yl, ym, yn, yo] at h3
        obtain ⟨y, hy, hym, hyi⟩ := get_of_lt (l := out) (i := k - 1) (by omega)
        have hkp : ((k : Int) - 1).toNat = k - 1 := by omega
        refine awp_skip ?_
        refine then_n ?_
        refine awp_block ?_
        refine awp_drawn_k (fun f => f == 160) (fun _ => false) (by kernel_rfl) (by decide) (by rw [hB]; rfl) fun K hK base hbase hfr => trd_run ?_
        simp (disch := omega) only [go_sem, ↓reduceIte, za, zb, zc, zd, ze, zf, zg, zh, zi, zj, zk, zl, zm, zn, zo, hx, hy, hkp, dec_t, dec_f, ltI, leI, leN, le63, le40, le0, wrap64_id, wrapu64_id, wrap8_id]
        refine trd_pc (by kernel_rfl) (by rfl) (by simp only [go_sem, ↓reduceIte, za, zb, zc, zd, ze, zf, zg, zh, zi, zj, zk, zl, zm, zn, zo, hx, hy, hkp] <;> rfl) (c160 x y) ?_
        simp (disch := omega) only [go_sem, ↓reduceIte, za, zb, zc, zd, ze, zf, zg, zh, zi, zj, zk, zl, zm, zn, zo, hx, hy, hkp, dec_t, dec_f, ltI, leI, leN, le63, le40, le0, wrap64_id, wrapu64_id, wrap8_id]
        refine trd_nil (hK _ _ _ ?_)
        clear hK K hbase hfr base
        refine awp_seq ?_
        refine awp_region_k (fun _ => false) (by rw [hB]; rfl) fun K hK base hbase hfr => tr_run ?_
        simp (disch := omega) only [go_sem, ↓reduceIte, za, zb, zc, zd, ze, zf, zg, zh, zi, zj, zk, zl, zm, zn, zo, dec_t, dec_f, ltI, leI, leN, le63, le40, le0, wrap64_id, wrapu64_id, wrap8_id]
        refine tr_nil (hK _ _ _ ?_)
        clear hK K hbase hfr base
        refine awp_cond (rfl) (fun h4 => ?_) (fun h4 => ?_)
        · try simp only [yb, yc, yd, ye, yf, yg, yh, yi, yj, yk, yl, ym, yn, yo] at h4
          have e4 : dLess x y = false := by cases hh : dLess x y <;> simp_all
          refine awp_exit ?_
          refine then_x ?_
          refine block_o (by decide) ?_
          refine then_x ?_
          refine block_x ?_
          refine then_n ?_
          refine awp_region_k (fun _ => false) (by rw [hB]; rfl) fun K hK base hbase hfr => tr_run ?_
          simp (disch := omega) only [go_sem, ↓reduceIte, za, zb, zc, zd, ze, zf, zg, zh, zi, zj, zk, zl, zm, zn, zo, dec_t, dec_f, ltI, leI, leN, le63, le40, le0, wrap64_id, wrapu64_id, wrap8_id]
          refine tr_nil (hK _ _ _ ?_)
          clear hK K hbase hfr base
          refine awp_region_k (fun _ => false) (by rw [hB]; rfl) fun K hK base hbase hfr => tr_run ?_
          simp (disch := omega) only [go_sem, ↓reduceIte, za, zb, zc, zd, ze, zf, zg, zh, zi, zj, zk, zl, zm, zn, zo, ho, dec_t, dec_f, ltI, leI, leN, le63, le40, le0, wrap64_id, wrapu64_id, wrap8_id]
          refine tr_nil (hK _ _ _ ?_)
          clear hK K hfr
          refine awp_region_k (fun _ => false) (by rw [hB]; rfl) fun K hK base hbase hfr => tr_run ?_
          simp (disch := omega) only [go_sem, ↓reduceIte, za, zb, zc, zd, ze, zf, zg, zh, zi, zj, zk, zl, zm, zn, zo, hx, ho, dec_t, dec_f, ltI, leI, leN, le63, le40, le0, wrap64_id, wrapu64_id, wrap8_id]
          refine tr_nil (hK _ _ _ ?_)
          clear hK K hfr
          refine awp_region_e (fun _ => false) (by rw [hB]; rfl) fun K hK base hbase hfr => tr_run ?_
          simp (disch := omega) only [go_sem, ↓reduceIte, za, zb, zc, zd, ze, zf, zg, zh, zi, zj, zk, zl, zm, zn, zo, ho, dec_t, dec_f, ltI, leI, leN, le63, le40, le0, wrap64_id, wrapu64_id, wrap8_id]
          refine tr_nil (hK _ _ _ ?_)
          clear hK K hfr
          refine block_n ?_
          refine then_n ?_
          refine awp_region_e (fun _ => false) (by rw [hB]; rfl) fun K hK base hbase hfr => tr_run ?_
          simp (disch := omega) only [go_sem, ↓reduceIte, za, zb, zc, zd, ze, zf, zg, zh, zi, zj, zk, zl, zm, zn, zo, dec_t, dec_f, ltI, leI, leN, le63, le40, le0, wrap64_id, wrapu64_id, wrap8_id]
          refine tr_nil (hK _ _ _ ?_)
          clear hK K hbase hfr base
          refine then_n ⟨(i + 1, out.take k ++ [x] ++ out.drop k), ?_, ?_, ?_, ?_, ⟨fun _ _ h => h, fun _ h => by first | exact h | exact List.mem_cons_of_mem _ h⟩⟩
          · have hk : insPos x out out.length = k := by rw [← hp]; rw [show k = (k - 1) + 1 by omega, insPos, getD_of2 hy, if_neg (by simp [e4])]
            refine ⟨?_, ?_⟩
            · show dSortGo (out.take k ++ [x] ++ out.drop k) (l.drop (i + 1)) = dSort l
              rw [← h0, drop_cons_of hx, dSortGo, if_neg (by simp [h2]), dIns, hk]
            · show (out.take k ++ [x] ++ out.drop k).length ≤ i + 1
              simp only [List.length_append, List.length_take, List.length_drop, List.length_cons, List.length_nil]; omega
          · show l.length - (i + 1) < l.length - i; omega
          · exact Env.subW_one rfl <| Env.subW_cons rfl (by first | exact (.one (.refl _)) | exact vw_no (by simp only [List.map_append, List.map_cons, List.map_nil]; rfl)) <| Env.subW_one rfl <| Env.subW_nil _
          · exact Boxes.subW_nil _
        · try simp only [yb, yc, yd, ye, yf, yg, yh, yi, yj, yk, yl, ym, yn, yo] at h4
          refine awp_skip ?_
          refine then_n ?_
          refine awp_region_e (fun _ => false) (by rw [hB]; rfl) fun K hK base hbase hfr => tr_run ?_
          simp (disch := omega) only [go_sem, ↓reduceIte, za, zb, zc, zd, ze, zf, zg, zh, zi, zj, zk, zl, zm, zn, zo, dec_t, dec_f, ltI, leI, leN, le63, le40, le0, wrap64_id, wrapu64_id, wrap8_id]
          refine tr_nil (hK _ _ _ ?_)
          clear hK K hbase hfr base
          refine block_n ?_
          refine then_n ⟨k - 1, ?_, ?_, ?_, ?_, Sh.sub_refl _⟩
          · refine ⟨?_, by omega⟩
            show insPos x out (k - 1) = insPos x out out.length
            rw [← hp]
            conv => rhs; rw [show k = (k - 1) + 1 by omega, insPos, getD_of2 hy, if_pos h4]
          · show k - 1 < k; omega
          · exact Env.subW_one rfl <| Env.subW_one rfl <| Env.subW_one rfl <| Env.subW_one (by rw [show ((k - 1 : Nat) : Int) = (k : Int) - 1 by omega]; rfl) <| Env.subW_nil _
          · exact Boxes.subW_nil _
      · try simp only [yb, yc, yd, ye, yf, yg, yh, yi, yj, yk, yl, ym, yn, yo] at h3
        have hk0 : k = 0 := by omega
        refine awp_exit ?_
        refine then_x ?_
        refine then_x ?_
        refine block_x ?_
        refine then_n ?_
        refine awp_region_k (fun _ => false) (by rw [hB]; rfl) fun K hK base hbase hfr => tr_run ?_
        simp (disch := omega) only [go_sem, ↓reduceIte, za, zb, zc, zd, ze, zf, zg, zh, zi, zj, zk, zl, zm, zn, zo, dec_t, dec_f, ltI, leI, leN, le63, le40, le0, wrap64_id, wrapu64_id, wrap8_id]
        refine tr_nil (hK _ _ _ ?_)
        clear hK K hbase hfr base
        refine awp_region_k (fun _ => false) (by rw [hB]; rfl) fun K hK base hbase hfr => tr_run ?_
        simp (disch := omega) only [go_sem, ↓reduceIte, za, zb, zc, zd, ze, zf, zg, zh, zi, zj, zk, zl, zm, zn, zo, ho, dec_t, dec_f, ltI, leI, leN, le63, le40, le0, wrap64_id, wrapu64_id, wrap8_id]
        refine tr_nil (hK _ _ _ ?_)
        clear hK K hfr
        refine awp_region_k (fun _ => false) (by rw [hB]; rfl) fun K hK base hbase hfr => tr_run ?_
        simp (disch := omega) only [go_sem, ↓reduceIte, za, zb, zc, zd, ze, zf, zg, zh, zi, zj, zk, zl, zm, zn, zo, hx, ho, dec_t, dec_f, ltI, leI, leN, le63, le40, le0, wrap64_id, wrapu64_id, wrap8_id]
        refine tr_nil (hK _ _ _ ?_)
        clear hK K hfr
        refine awp_region_e (fun _ => false) (by rw [hB]; rfl) fun K hK base hbase hfr => tr_run ?_
        simp (disch := omega) only [go_sem, ↓reduceIte, za, zb, zc, zd, ze, zf, zg, zh, zi, zj, zk, zl, zm, zn, zo, ho, dec_t, dec_f, ltI, leI, leN, le63, le40, le0, wrap64_id, wrapu64_id, wrap8_id]
        refine tr_nil (hK _ _ _ ?_)
        clear hK K hfr
        refine block_n ?_
        refine then_n ?_
        refine awp_region_e (fun _ => false) (by rw [hB]; rfl) fun K hK base hbase hfr => tr_run ?_
        simp (disch := omega) only [go_sem, ↓reduceIte, za, zb, zc, zd, ze, zf, zg, zh, zi, zj, zk, zl, zm, zn, zo, dec_t, dec_f, ltI, leI, leN, le63, le40, le0, wrap64_id, wrapu64_id, wrap8_id]
        refine tr_nil (hK _ _ _ ?_)
        clear hK K hbase hfr base
        refine then_n ⟨(i + 1, out.take k ++ [x] ++ out.drop k), ?_, ?_, ?_, ?_, ⟨fun _ _ h => h, fun _ h => by first | exact h | exact List.mem_cons_of_mem _ h⟩⟩
        · have hk : insPos x out out.length = k := by rw [← hp]; rw [hk0]; rfl
          refine ⟨?_, ?_⟩
          · show dSortGo (out.take k ++ [x] ++ out.drop k) (l.drop (i + 1)) = dSort l
            rw [← h0, drop_cons_of hx, dSortGo, if_neg (by simp [h2]), dIns, hk]
          · show (out.take k ++ [x] ++ out.drop k).length ≤ i + 1
            simp only [List.length_append, List.length_take, List.length_drop, List.length_cons, List.length_nil]; omega
        · show l.length - (i + 1) < l.length - i; omega
        · exact Env.subW_one rfl <| Env.subW_cons rfl (by first | exact (.one (.refl _)) | exact vw_no (by simp only [List.map_append, List.map_cons, List.map_nil]; rfl)) <| Env.subW_one rfl <| Env.subW_nil _
        · exact Boxes.subW_nil _
  · try simp only [yb, yc, yd, ye, yf, yg, yh, yi, yj, yk, yl, ym, yn, yo] at h1
    refine awp_exit ?_
    refine then_x ?_
    refine then_x ?_
    refine block_x ?_
    refine then_n ?_
    refine awp_region_k (fun _ => false) (by rw [hB]; rfl) fun K hK base hbase hfr => tr_run ?_
    simp (disch := omega) only [go_sem, ↓reduceIte, za, zb, zc, zd, ze, zf, zg, zh, zi, zj, zk, zl, zm, zn, zo, dec_t, dec_f, ltI, leI, leN, le63, le40, le0, wrap64_id, wrapu64_id, wrap8_id]
    refine tr_nil (hK _ _ _ ?_)
    clear hK K hbase hfr base
    refine awp_ret ?_
    refine ⟨_, rfl, ?_, fun _ _ h => h, fun _ h => h⟩
    have : dSort l = out := by rw [← h0, get_le h1]; rfl
    rw [this]; exact VW.refl _
end Go.Am
namespace Go.Am
open Go
open Nat renaming reduceEqDiff → za, reduceAdd → zb, reduceMul → zc, reducePow → zd, reduceLeDiff → ze, reduceSub → zf, reduceBEq → zg, reduceBNe → zh, reduceDiv → zi, reduceMod → zj
open Int renaming reduceLT → zk, reduceLE → zl, reduceEq → zm, reduceNe → zn, reduceToNat → zo
def intV (n : Int) : AV := .int .i64 n
attribute [go_sem] intV
@[go_sem] theorem ints_sized (l : List Int) : sized 1 (List.map intV l) = true := sized_map (f := intV) (fun _ => ⟨rfl, rfl⟩) l
theorem take_snoc {α : Type} {l : List α} {i : Nat} {x : α} (hx : l[i]? = some x) : l.take (i + 1) = l.take i ++ [x] := by
  rw [List.take_add_one, hx]; rfl
def zN (d : Int × Int) : Int × Int := (d.1, 0)
def cNodes (c : Ctx) : List Int := (dSort (c.base.map zN ++ c.cloud.map zN)).map (·.1)
theorem live_sub {a b : Nat} {l : List Nat} : ∀ t, t ∈ a :: l → t ∈ a :: b :: l := fun t h => by
  rcases List.mem_cons.1 h with h | h <;> simp [h]
theorem c101 (c : Ctx) (t1 t2 : Tag) (hl1 : c.base.length ≤ 137438953472) (hl2 : c.cloud.length ≤ 137438953472) : PCalls Go.Proofs.Tryz.prog 101 [ctxV c t1 t2] (.list ((cNodes c).map intV) .no) := by
  have hsl : (dSort (c.base.map zN ++ c.cloud.map zN)).length ≤ 274877906944 := by have := dSort_length (c.base.map zN ++ c.cloud.map zN); simp only [List.length_map, List.length_append] at this; omega
  refine pcalls_of_awp Go.Proofs.Tryz.func101 rfl (by decide) (Nat.le_of_ble_eq_true rfl) ?_
  intro B σ hB ho hob
  refine awp_region_k (fun _ => false) (by rw [hB]; rfl) fun K hK base hbase hfr => tr_run ?_
  simp (disch := omega) only [go_sem, ↓reduceIte, za, zb, zc, zd, ze, zf, zg, zh, zi, zj, zk, zl, zm, zn, zo, dec_t, dec_f, ltI, leI, leN, le63, le40, le0, wrap64_id, wrapu64_id, wrap8_id]
  refine tr_nil (hK _ _ _ ?_)
  clear hK K hbase hfr base
  refine awp_region_k (fun _ => false) (by rw [hB]; rfl) fun K hK base hbase hfr => tr_run ?_
  simp (disch := omega) only [go_sem, ↓reduceIte, za, zb, zc, zd, ze, zf, zg, zh, zi, zj, zk, zl, zm, zn, zo, dec_t, dec_f, ltI, leI, leN, le63, le40, le0, wrap64_id, wrapu64_id, wrap8_id]
  refine tr_nil (hK _ _ _ ?_)
  clear hK K hbase hfr base
  refine awp_seq ?_
  refine awp_region_k (fun _ => false) (by rw [hB]; rfl) fun K hK base hbase hfr => tr_run ?_
  simp (disch := omega) only [go_sem, ↓reduceIte, za, zb, zc, zd, ze, zf, zg, zh, zi, zj, zk, zl, zm, zn, zo, dec_t, dec_f, ltI, leI, leN, le63, le40, le0, wrap64_id, wrapu64_id, wrap8_id]
  refine tr_nil (hK _ _ _ ?_)
  clear hK K hbase hfr base
  refine awp_block ?_
  refine awp_tok 3 rfl fun t0 ht0 => ?_
  refine awp_loop_w (α := Nat × List (Int × Int) × Nat) (fun x => x.2.1 = (c.base.take x.1).map zN ∧ x.1 ≤ c.base.length ∧ B.g.nt ≤ x.2.2) (fun x => [(1, .lref 1 0), (3, .list (x.2.1.map dot) (.tok x.2.2)), (4, .int .i64 x.1)]) (fun x => [(1, [.list (c.base.map dot) t1, .list (c.cloud.map dot) t2])]) (fun x => { σ with live := x.2.2 :: σ.live }) (fun x => c.base.length - x.1) (0, [], t0) ?_ ?_ ?_ (Sh.sub_refl _) ?_
  · exact ⟨rfl, Nat.zero_le _, ht0⟩
  · exact Env.subW_one rfl <| Env.subW_one rfl <| Env.subW_one rfl <| Env.subW_nil _
  · exact Boxes.subW_one rfl <| Boxes.subW_nil _
  rintro ⟨i, out, t⟩ ⟨h0, ho2, ht⟩
  try dsimp only at h0 ho2 ht
  have hol : out.length = i := by rw [h0]; simp; omega
  refine awp_seq ?_
  refine awp_region_k (fun _ => false) (by rw [hB]; rfl) fun K hK base hbase hfr => tr_run ?_
  simp (disch := omega) only [go_sem, ↓reduceIte, za, zb, zc, zd, ze, zf, zg, zh, zi, zj, zk, zl, zm, zn, zo, dec_t, dec_f, ltI, leI, leN, le63, le40, le0, wrap64_id, wrapu64_id, wrap8_id]
  refine tr_nil (hK _ _ _ ?_)
  clear hK K hbase hfr base
  refine awp_cond (rfl) (fun h1 => ?_) (fun h1 => ?_)
  · try simp only [yb, yc, yd, ye, yf, yg, yh, yi, yj, yk, yl, ym, yn, yo] at h1
    obtain ⟨x, hx, hm, hi⟩ := get_of_lt h1
    refine awp_skip ?_
    refine then_n ?_
    refine awp_seq ?_
    refine awp_block ?_
    refine awp_region_e (fun _ => false) (by rw [hB]; rfl) fun K hK base hbase hfr => tr_run ?_
    simp (disch := omega) only [go_sem, ↓reduceIte, za, zb, zc, zd, ze, zf, zg, zh, zi, zj, zk, zl, zm, zn, zo, hx, ho, dec_t, dec_f, ltI, leI, leN, le63, le40, le0, wrap64_id, wrapu64_id, wrap8_id]
    refine tr_nil (hK _ _ _ ?_)
    clear hK K hfr
    refine block_n ?_
    refine then_n ?_
    refine awp_region_e (fun _ => false) (by rw [hB]; rfl) fun K hK base hbase hfr => tr_run ?_
    simp (disch := omega) only [go_sem, ↓reduceIte, za, zb, zc, zd, ze, zf, zg, zh, zi, zj, zk, zl, zm, zn, zo, dec_t, dec_f, ltI, leI, leN, le63, le40, le0, wrap64_id, wrapu64_id, wrap8_id]
    refine tr_nil (hK _ _ _ ?_)
    clear hK K hbase hfr base
    refine then_n ⟨(i + 1, out ++ [(x.1, 0)], base + 9), ?_, ?_, ?_, ?_, Sh.sub_refl _⟩
    · refine ⟨?_, hi, Nat.le_trans hbase (Nat.le_add_right _ _)⟩
      show out ++ [(x.1, 0)] = (c.base.take (i + 1)).map zN
      rw [h0, take_snoc hx]; simp [zN]
    · show c.base.length - (i + 1) < c.base.length - i; omega
    · exact Env.subW_one rfl <| Env.subW_one (by rw [map_snoc]; rfl) <| Env.subW_one rfl <| Env.subW_nil _
    · exact Boxes.subW_one rfl <| Boxes.subW_nil _
  · try simp only [yb, yc, yd, ye, yf, yg, yh, yi, yj, yk, yl, ym, yn, yo] at h1
    refine awp_exit ?_
    refine then_x ?_
    refine then_x ?_
    refine block_x ?_
    refine then_n ?_
    refine awp_seq ?_
    refine awp_region_k (fun _ => false) (by rw [hB]; rfl) fun K hK base hbase hfr => tr_run ?_
    simp (disch := omega) only [go_sem, ↓reduceIte, za, zb, zc, zd, ze, zf, zg, zh, zi, zj, zk, zl, zm, zn, zo, dec_t, dec_f, ltI, leI, leN, le63, le40, le0, wrap64_id, wrapu64_id, wrap8_id]
    refine tr_nil (hK _ _ _ ?_)
    clear hK K hbase hfr base
    refine awp_block ?_
    refine awp_loop_w (α := Nat × List (Int × Int) × Nat) (fun x => x.2.1 = c.base.map zN ++ (c.cloud.take x.1).map zN ∧ x.1 ≤ c.cloud.length ∧ B.g.nt ≤ x.2.2) (fun x => [(1, .lref 1 0), (3, .list (x.2.1.map dot) (.tok x.2.2)), (5, .int .i64 x.1)]) (fun x => [(1, [.list (c.base.map dot) t1, .list (c.cloud.map dot) t2])]) (fun x => { σ with live := x.2.2 :: σ.live }) (fun x => c.cloud.length - x.1) (0, out, t) ?_ ?_ ?_ (Sh.sub_refl _) ?_
    · exact ⟨by show out = c.base.map zN ++ (c.cloud.take 0).map zN; rw [h0, show i = c.base.length by omega]; simp, Nat.zero_le _, ht⟩
    · exact Env.subW_one rfl <| Env.subW_one rfl <| Env.subW_one rfl <| Env.subW_nil _
    · exact Boxes.subW_one rfl <| Boxes.subW_nil _
    clear h0 ho2 ht hol h1
    rintro ⟨i, out, t⟩ ⟨h0, ho2, ht⟩
    try dsimp only at h0 ho2 ht
    have hol : out.length = c.base.length + i := by rw [h0]; simp; omega
    refine awp_seq ?_
    refine awp_region_k (fun _ => false) (by rw [hB]; rfl) fun K hK base hbase hfr => tr_run ?_
    simp (disch := omega) only [go_sem, ↓reduceIte, za, zb, zc, zd, ze, zf, zg, zh, zi, zj, zk, zl, zm, zn, zo, dec_t, dec_f, ltI, leI, leN, le63, le40, le0, wrap64_id, wrapu64_id, wrap8_id]
    refine tr_nil (hK _ _ _ ?_)
    clear hK K hbase hfr base
    refine awp_cond (rfl) (fun h2 => ?_) (fun h2 => ?_)
    · try simp only [yb, yc, yd, ye, yf, yg, yh, yi, yj, yk, yl, ym, yn, yo] at h2
      obtain ⟨x, hx, hm, hi⟩ := get_of_lt h2
      refine awp_skip ?_
      refine then_n ?_
      refine awp_seq ?_
      refine awp_block ?_
      refine awp_region_e (fun _ => false) (by rw [hB]; rfl) fun K hK base hbase hfr => tr_run ?_
      simp (disch := omega) only [go_sem, ↓reduceIte, za, zb, zc, zd, ze, zf, zg, zh, zi, zj, zk, zl, zm, zn, zo, hx, ho, dec_t, dec_f, ltI, leI, leN, le63, le40, le0, wrap64_id, wrapu64_id, wrap8_id]
      refine tr_nil (hK _ _ _ ?_)
      clear hK K hfr
      refine block_n ?_
      refine then_n ?_
      refine awp_region_e (fun _ => false) (by rw [hB]; rfl) fun K hK base hbase hfr => tr_run ?_
      simp (disch := omega) only [go_sem, ↓reduceIte, za, zb, zc, zd, ze, zf, zg, zh, zi, zj, zk, zl, zm, zn, zo, dec_t, dec_f, ltI, leI, leN, le63, le40, le0, wrap64_id, wrapu64_id, wrap8_id]
      refine tr_nil (hK _ _ _ ?_)
      clear hK K hbase hfr base
      refine then_n ⟨(i + 1, out ++ [(x.1, 0)], base + 9), ?_, ?_, ?_, ?_, Sh.sub_refl _⟩
      · refine ⟨?_, hi, Nat.le_trans hbase (Nat.le_add_right _ _)⟩
        show out ++ [(x.1, 0)] = c.base.map zN ++ (c.cloud.take (i + 1)).map zN
        rw [h0, take_snoc hx]; simp [zN]
      · show c.cloud.length - (i + 1) < c.cloud.length - i; omega
      · exact Env.subW_one rfl <| Env.subW_one (by rw [map_snoc]; rfl) <| Env.subW_one rfl <| Env.subW_nil _
      · exact Boxes.subW_one rfl <| Boxes.subW_nil _
    · try simp only [yb, yc, yd, ye, yf, yg, yh, yi, yj, yk, yl, ym, yn, yo] at h2
      refine awp_exit ?_
      refine then_x ?_
      refine then_x ?_
      refine block_x ?_
      refine then_n ?_
      have e : out = c.base.map zN ++ c.cloud.map zN := by rw [h0, show i = c.cloud.length by omega]; simp
      subst e
      refine awp_region_k (fun _ => false) (by rw [hB]; rfl) fun K hK base hbase hfr => tr_run ?_
      simp (disch := omega) only [go_sem, ↓reduceIte, za, zb, zc, zd, ze, zf, zg, zh, zi, zj, zk, zl, zm, zn, zo, dec_t, dec_f, ltI, leI, leN, le63, le40, le0, wrap64_id, wrapu64_id, wrap8_id]
      refine tr_pc (by rfl) (by simp only [go_sem, ↓reduceIte, za, zb, zc, zd, ze, zf, zg, zh, zi, zj, zk, zl, zm, zn, zo] <;> rfl) (c156 _ _ (by simp only [List.length_map, List.length_append]; omega)) ?_
      simp (disch := omega) only [go_sem, ↓reduceIte, za, zb, zc, zd, ze, zf, zg, zh, zi, zj, zk, zl, zm, zn, zo, dec_t, dec_f, ltI, leI, leN, le63, le40, le0, wrap64_id, wrapu64_id, wrap8_id]
      refine tr_nil (hK _ _ _ ?_)
      clear hK K hbase hfr base
      refine awp_region_k (fun _ => false) (by rw [hB]; rfl) fun K hK base hbase hfr => tr_run ?_
      simp (disch := omega) only [go_sem, ↓reduceIte, za, zb, zc, zd, ze, zf, zg, zh, zi, zj, zk, zl, zm, zn, zo, dec_t, dec_f, ltI, leI, leN, le63, le40, le0, wrap64_id, wrapu64_id, wrap8_id]
      refine tr_nil (hK _ _ _ ?_)
      clear hK K hbase hfr base
      refine awp_seq ?_
      refine awp_region_k (fun _ => false) (by rw [hB]; rfl) fun K hK base hbase hfr => tr_run ?_
      simp (disch := omega) only [go_sem, ↓reduceIte, za, zb, zc, zd, ze, zf, zg, zh, zi, zj, zk, zl, zm, zn, zo, dec_t, dec_f, ltI, leI, leN, le63, le40, le0, wrap64_id, wrapu64_id, wrap8_id]
      refine tr_nil (hK _ _ _ ?_)
      clear hK K hbase hfr base
      refine awp_block ?_
      refine awp_tok 6 rfl fun t0 ht0 => ?_
      refine awp_loop_w (α := Nat × List Int × Nat) (fun x => x.2.1 = ((dSort (c.base.map zN ++ c.cloud.map zN)).take x.1).map (·.1) ∧ x.1 ≤ (dSort (c.base.map zN ++ c.cloud.map zN)).length ∧ B.g.nt ≤ x.2.2) (fun x => [(3, dots (dSort (c.base.map zN ++ c.cloud.map zN)) .no), (6, .list (x.2.1.map intV) (.tok x.2.2)), (7, .int .i64 x.1)]) (fun x => []) (fun x => { σ with live := x.2.2 :: σ.live }) (fun x => (dSort (c.base.map zN ++ c.cloud.map zN)).length - x.1) (0, [], t0) ?_ ?_ (Boxes.subW_nil _) ⟨fun _ _ h => h, live_sub⟩ ?_
      · exact ⟨rfl, Nat.zero_le _, ht0⟩
      · exact Env.subW_one rfl <| Env.subW_one rfl <| Env.subW_one rfl <| Env.subW_nil _
      clear h0 ho2 ht hol
      rintro ⟨i, out, t⟩ ⟨h0, ho2, ht⟩
      try dsimp only at h0 ho2 ht
      have hol : out.length = i := by rw [h0]; simp; omega
      refine awp_seq ?_
      refine awp_region_k (fun _ => false) (by rw [hB]; rfl) fun K hK base hbase hfr => tr_run ?_
      simp (disch := omega) only [go_sem, ↓reduceIte, za, zb, zc, zd, ze, zf, zg, zh, zi, zj, zk, zl, zm, zn, zo, dec_t, dec_f, ltI, leI, leN, le63, le40, le0, wrap64_id, wrapu64_id, wrap8_id]
      refine tr_nil (hK _ _ _ ?_)
      clear hK K hbase hfr base
      refine awp_cond (rfl) (fun h3 => ?_) (fun h3 => ?_)
      · try simp only [yb, yc, yd, ye, yf, yg, yh, yi, yj, yk, yl, ym, yn, yo] at h3
        obtain ⟨x, hx, hm, hi⟩ := get_of_lt h3
        refine awp_skip ?_
        refine then_n ?_
        refine awp_seq ?_
        refine awp_block ?_
        refine awp_region_e (fun _ => false) (by rw [hB]; rfl) fun K hK base hbase hfr => tr_run ?_
        simp (disch := omega) only [go_sem, ↓reduceIte, za, zb, zc, zd, ze, zf, zg, zh, zi, zj, zk, zl, zm, zn, zo, hx, ho, dec_t, dec_f, ltI, leI, leN, le63, le40, le0, wrap64_id, wrapu64_id, wrap8_id]
        refine tr_nil (hK _ _ _ ?_)
        clear hK K hfr
        refine block_n ?_
        refine then_n ?_
        refine awp_region_e (fun _ => false) (by rw [hB]; rfl) fun K hK base hbase hfr => tr_run ?_
        simp (disch := omega) only [go_sem, ↓reduceIte, za, zb, zc, zd, ze, zf, zg, zh, zi, zj, zk, zl, zm, zn, zo, dec_t, dec_f, ltI, leI, leN, le63, le40, le0, wrap64_id, wrapu64_id, wrap8_id]
        refine tr_nil (hK _ _ _ ?_)
        clear hK K hbase hfr base
        refine then_n ⟨(i + 1, out ++ [x.1], base + 7), ?_, ?_, ?_, ?_, Sh.sub_refl _⟩
        · refine ⟨?_, hi, Nat.le_trans hbase (Nat.le_add_right _ _)⟩
          show out ++ [x.1] = ((dSort (c.base.map zN ++ c.cloud.map zN)).take (i + 1)).map (·.1)
          rw [h0, take_snoc hx]; simp
        · show (dSort (c.base.map zN ++ c.cloud.map zN)).length - (i + 1) < (dSort (c.base.map zN ++ c.cloud.map zN)).length - i; omega
        · exact Env.subW_one rfl <| Env.subW_one (by rw [map_snoc]; rfl) <| Env.subW_one rfl <| Env.subW_nil _
        · exact Boxes.subW_nil _
      · try simp only [yb, yc, yd, ye, yf, yg, yh, yi, yj, yk, yl, ym, yn, yo] at h3
        refine awp_exit ?_
        refine then_x ?_
        refine then_x ?_
        refine block_x ?_
        refine then_n ?_
        refine awp_region_k (fun _ => false) (by rw [hB]; rfl) fun K hK base hbase hfr => tr_run ?_
        simp (disch := omega) only [go_sem, ↓reduceIte, za, zb, zc, zd, ze, zf, zg, zh, zi, zj, zk, zl, zm, zn, zo, dec_t, dec_f, ltI, leI, leN, le63, le40, le0, wrap64_id, wrapu64_id, wrap8_id]
        refine tr_nil (hK _ _ _ ?_)
        clear hK K hbase hfr base
        refine awp_ret ?_
        refine ⟨_, rfl, ?_, fun _ _ h => h, fun _ h => List.mem_cons_of_mem _ h⟩
        have : cNodes c = out := by rw [h0, List.take_of_length_le (by omega)]; rfl
        rw [this]; exact .one (.one (.no _ _))
end Go.Am
namespace Go.Am
open Go
open Nat renaming reduceEqDiff → za, reduceAdd → zb, reduceMul → zc, reducePow → zd, reduceLeDiff → ze, reduceSub → zf, reduceBEq → zg, reduceBNe → zh, reduceDiv → zi, reduceMod → zj
open Int renaming reduceLT → zk, reduceLE → zl, reduceEq → zm, reduceNe → zn, reduceToNat → zo
theorem dSortGo_mem : ∀ (l out : List (Int × Int)) (x : Int × Int), x ∈ dSortGo out l → x ∈ out ∨ x ∈ l
  | [], out, x, h => .inl h
  | a :: l, out, x, h => by
    unfold dSortGo at h
    split at h
    · rcases dSortGo_mem l out x h with h | h
      · exact .inl h
      · exact .inr (List.mem_cons_of_mem _ h)
    · rcases dSortGo_mem l _ x h with h | h
      · simp only [dIns, List.mem_append, List.mem_cons, List.not_mem_nil, or_false] at h
        rcases h with (h | h) | h
        · exact .inl (List.mem_of_mem_take h)
        · subst h; exact .inr (List.mem_cons_self ..)
        · exact .inl (List.mem_of_mem_drop h)
      · exact .inr (List.mem_cons_of_mem _ h)
theorem dSort_mem {l : List (Int × Int)} {x : Int × Int} (h : x ∈ dSort l) : x ∈ l := by
  rcases dSortGo_mem l [] x h with h | h
  · cases h
  · exact h
def ofGo (up : Int) (out : List (Int × Int)) : List (Int × Int) → Int × List (Int × Int)
  | [] => (up, out)
  | a :: l => if a.2 = up + 1 then ofGo (up + 1) out l else if up < a.2 then ofGo up (out ++ [a]) l else ofGo up out l
def cOf (node up : Int) (beyond : List (Int × Int)) : Int × List (Int × Int) := ofGo up [] (dOf (dSort beyond) node)
def mMay (m : Msg) : Bool := dCheck m.d && (decide ((1 : Int) ≤ (m.q.length : Int)) && (decide ((m.q.length : Int) ≤ 40) && (decide ((m.b.length : Int) ≤ 1000) && (decide (0 ≤ m.c) && decide (m.c ≤ 1048576)))))
def cHas (c : Ctx) (d : Int × Int) : Bool := dCheck d && (decide (d.2 ≤ dBase c.base d.1) || dHas c.cloud d)
theorem c103 (node up0 : Int) (l : List (Int × Int)) (tg : Tag) (hl : l.length ≤ 549755813888) (hm : ∀ d ∈ l, d.2 ≤ 4611686018427387904) (hu : -4611686018427387904 ≤ up0 ∧ up0 ≤ 4611686018427387904) : PCalls Go.Proofs.Tryz.prog 103 [.int .i64 node, .int .i64 up0, dots l tg] (.tuple [.int .i64 (cOf node up0 l).1, .list ((cOf node up0 l).2.map dot) .no]) := by
  have hS := dSort_length l
  have hD : (dOf (dSort l) node).length ≤ (dSort l).length := List.length_filter_le _ _
  have hM : ∀ d ∈ dOf (dSort l) node, d.2 ≤ 4611686018427387904 := fun d hd => hm d (dSort_mem (List.mem_filter.1 hd).1)
  have hC : cOf node up0 l = ofGo up0 [] (dOf (dSort l) node) := rfl
  have hof := c157 (dSort l) .no node (by omega)
  generalize dOf (dSort l) node = L at hD hM hC hof
  refine pcalls_of_awp Go.Proofs.Tryz.func103 rfl (by decide) (Nat.le_of_ble_eq_true rfl) ?_
  intro B σ hB ho hob
  refine awp_region_k (fun _ => false) (by rw [hB]; rfl) fun K hK base hbase hfr => tr_run ?_
  simp (disch := omega) only [go_sem, ↓reduceIte, za, zb, zc, zd, ze, zf, zg, zh, zi, zj, zk, zl, zm, zn, zo, dec_t, dec_f, ltI, leI, leN, le63, le40, le0, wrap64_id, wrapu64_id, wrap8_id]
  refine tr_nil (hK _ _ _ ?_)
  clear hK K hbase hfr base
  refine awp_region_k (fun _ => false) (by rw [hB]; rfl) fun K hK base hbase hfr => tr_run ?_
  simp (disch := omega) only [go_sem, ↓reduceIte, za, zb, zc, zd, ze, zf, zg, zh, zi, zj, zk, zl, zm, zn, zo, dec_t, dec_f, ltI, leI, leN, le63, le40, le0, wrap64_id, wrapu64_id, wrap8_id]
  refine tr_pc (by rfl) (by simp only [go_sem, ↓reduceIte, za, zb, zc, zd, ze, zf, zg, zh, zi, zj, zk, zl, zm, zn, zo] <;> rfl) (c156 l tg hl) ?_
  simp (disch := omega) only [go_sem, ↓reduceIte, za, zb, zc, zd, ze, zf, zg, zh, zi, zj, zk, zl, zm, zn, zo, dec_t, dec_f, ltI, leI, leN, le63, le40, le0, wrap64_id, wrapu64_id, wrap8_id]
  refine tr_pc (by rfl) (by simp only [go_sem, ↓reduceIte, za, zb, zc, zd, ze, zf, zg, zh, zi, zj, zk, zl, zm, zn, zo] <;> rfl) (hof) ?_
  simp (disch := omega) only [go_sem, ↓reduceIte, za, zb, zc, zd, ze, zf, zg, zh, zi, zj, zk, zl, zm, zn, zo, dec_t, dec_f, ltI, leI, leN, le63, le40, le0, wrap64_id, wrapu64_id, wrap8_id]
  refine tr_nil (hK _ _ _ ?_)
  clear hK K hbase hfr base
  refine awp_region_k (fun _ => false) (by rw [hB]; rfl) fun K hK base hbase hfr => tr_run ?_
  simp (disch := omega) only [go_sem, ↓reduceIte, za, zb, zc, zd, ze, zf, zg, zh, zi, zj, zk, zl, zm, zn, zo, dec_t, dec_f, ltI, leI, leN, le63, le40, le0, wrap64_id, wrapu64_id, wrap8_id]
  refine tr_nil (hK _ _ _ ?_)
  clear hK K hbase hfr base
  refine awp_seq ?_
  refine awp_region_k (fun _ => false) (by rw [hB]; rfl) fun K hK base hbase hfr => tr_run ?_
  simp (disch := omega) only [go_sem, ↓reduceIte, za, zb, zc, zd, ze, zf, zg, zh, zi, zj, zk, zl, zm, zn, zo, dec_t, dec_f, ltI, leI, leN, le63, le40, le0, wrap64_id, wrapu64_id, wrap8_id]
  refine tr_nil (hK _ _ _ ?_)
  clear hK K hbase hfr base
  refine awp_block ?_
  refine awp_tok 9 rfl fun t0 ht0 => ?_
  refine awp_loop_w (α := Nat × Int × List (Int × Int) × Nat) (fun x => ofGo x.2.1 x.2.2.1 (L.drop x.1) = cOf node up0 l ∧ x.2.2.1.length ≤ x.1 ∧ x.1 ≤ L.length ∧ B.g.nt ≤ x.2.2.2 ∧ x.2.1 ≤ 4611686018427387904 ∧ -4611686018427387904 ≤ x.2.1) (fun x => [(1, .int .i64 x.2.1), (8, .list (L.map dot) .no), (9, .list (x.2.2.1.map dot) (.tok x.2.2.2)), (10, .int .i64 x.1)]) (fun x => []) (fun x => { σ with live := x.2.2.2 :: σ.live }) (fun x => L.length - x.1) (0, up0, [], t0) ?_ ?_ (Boxes.subW_nil _) (Sh.sub_refl _) ?_
  · exact ⟨hC.symm, Nat.le_refl _, Nat.zero_le _, ht0, hu.2, hu.1⟩
  · exact Env.subW_one rfl <| Env.subW_one rfl <| Env.subW_one rfl <| Env.subW_one rfl <| Env.subW_nil _
  rintro ⟨i, up, out, t⟩ ⟨h0, ho1, ho2, ht, h3b, h4b⟩
  try dsimp only at h0 ho1 ho2 ht h3b h4b
  refine awp_seq ?_
  refine awp_region_k (fun _ => false) (by rw [hB]; rfl) fun K hK base hbase hfr => tr_run ?_
  simp (disch := omega) only [go_sem, ↓reduceIte, za, zb, zc, zd, ze, zf, zg, zh, zi, zj, zk, zl, zm, zn, zo, dec_t, dec_f, ltI, leI, leN, le63, le40, le0, wrap64_id, wrapu64_id, wrap8_id]
  refine tr_nil (hK _ _ _ ?_)
  clear hK K hbase hfr base
  refine awp_cond (rfl) (fun h1 => ?_) (fun h1 => ?_)
  · try simp only [yb, yc, yd, ye, yf, yg, yh, yi, yj, yk, yl, ym, yn, yo] at h1
    obtain ⟨x, hx, hxm, hi⟩ := get_of_lt h1
    have hxM := hM x hxm
    refine awp_skip ?_
    refine then_n ?_
    refine awp_seq ?_
    refine awp_block ?_
    refine awp_region_k (fun _ => false) (by rw [hB]; rfl) fun K hK base hbase hfr => tr_run ?_
    simp (disch := omega) only [go_sem, ↓reduceIte, za, zb, zc, zd, ze, zf, zg, zh, zi, zj, zk, zl, zm, zn, zo, hx, dec_t, dec_f, ltI, leI, leN, le63, le40, le0, wrap64_id, wrapu64_id, wrap8_id]
    refine tr_nil (hK _ _ _ ?_)
    clear hK K hbase hfr base
    refine awp_cond (rfl) (fun h2 => ?_) (fun h2 => ?_)
    · try simp only [yb, yc, yd, ye, yf, yg, yh, yi, yj, yk, yl, ym, yn, yo] at h2
      refine awp_region_e (fun _ => false) (by rw [hB]; rfl) fun K hK base hbase hfr => tr_run ?_
      simp (disch := omega) only [go_sem, ↓reduceIte, za, zb, zc, zd, ze, zf, zg, zh, zi, zj, zk, zl, zm, zn, zo, dec_t, dec_f, ltI, leI, leN, le63, le40, le0, wrap64_id, wrapu64_id, wrap8_id]
      refine tr_nil (hK _ _ _ ?_)
      clear hK K hbase hfr base
      refine block_n ?_
      refine then_n ?_
      refine awp_region_e (fun _ => false) (by rw [hB]; rfl) fun K hK base hbase hfr => tr_run ?_
      simp (disch := omega) only [go_sem, ↓reduceIte, za, zb, zc, zd, ze, zf, zg, zh, zi, zj, zk, zl, zm, zn, zo, dec_t, dec_f, ltI, leI, leN, le63, le40, le0, wrap64_id, wrapu64_id, wrap8_id]
      refine tr_nil (hK _ _ _ ?_)
      clear hK K hbase hfr base
      refine then_n ⟨(i + 1, up + 1, out, t), ?_, ?_, ?_, ?_, Sh.sub_refl _⟩
      · refine ⟨?_, by show out.length ≤ i + 1; omega, hi, ht, by show up + 1 ≤ _; omega, by show _ ≤ up + 1; omega⟩
        show ofGo (up + 1) out (L.drop (i + 1)) = _
        rw [← h0, drop_cons_of hx, ofGo, if_pos h2]
      · show L.length - (i + 1) < L.length - i; omega
      · exact Env.subW_one rfl <| Env.subW_one rfl <| Env.subW_one (by first | rfl | (rw [map_snoc]; rfl)) <| Env.subW_one rfl <| Env.subW_nil _
      · exact Boxes.subW_nil _
    · try simp only [yb, yc, yd, ye, yf, yg, yh, yi, yj, yk, yl, ym, yn, yo] at h2
      refine awp_region_k (fun _ => false) (by rw [hB]; rfl) fun K hK base hbase hfr => tr_run ?_
      simp (disch := omega) only [go_sem, ↓reduceIte, za, zb, zc, zd, ze, zf, zg, zh, zi, zj, zk, zl, zm, zn, zo, hx, dec_t, dec_f, ltI, leI, leN, le63, le40, le0, wrap64_id, wrapu64_id, wrap8_id]
      refine tr_nil (hK _ _ _ ?_)
      clear hK K hbase hfr base
      refine awp_cond (rfl) (fun h3 => ?_) (fun h3 => ?_)
      · try simp only [yb, yc, yd, ye, yf, yg, yh, yi, yj, yk, yl, ym, yn, yo] at h3
        refine awp_region_e (fun _ => false) (by rw [hB]; rfl) fun K hK base hbase hfr => tr_run ?_
        simp (disch := omega) only [go_sem, ↓reduceIte, za, zb, zc, zd, ze, zf, zg, zh, zi, zj, zk, zl, zm, zn, zo, hx, ho, dec_t, dec_f, ltI, leI, leN, le63, le40, le0, wrap64_id, wrapu64_id, wrap8_id]
        refine tr_nil (hK _ _ _ ?_)
        clear hK K hfr
        refine block_n ?_
        refine then_n ?_
        refine awp_region_e (fun _ => false) (by rw [hB]; rfl) fun K hK base hbase hfr => tr_run ?_
        simp (disch := omega) only [go_sem, ↓reduceIte, za, zb, zc, zd, ze, zf, zg, zh, zi, zj, zk, zl, zm, zn, zo, dec_t, dec_f, ltI, leI, leN, le63, le40, le0, wrap64_id, wrapu64_id, wrap8_id]
        refine tr_nil (hK _ _ _ ?_)
        clear hK K hbase hfr base
        refine then_n ⟨(i + 1, up, out ++ [x], base + 6), ?_, ?_, ?_, ?_, Sh.sub_refl _⟩
        · refine ⟨?_, by show (out ++ [x]).length ≤ i + 1; simp only [List.length_append, List.length_cons, List.length_nil]; omega, hi, Nat.le_trans hbase (Nat.le_add_right _ _), h3b, h4b⟩
          show ofGo up (out ++ [x]) (L.drop (i + 1)) = _
          rw [← h0, drop_cons_of hx, ofGo, if_neg h2, if_pos h3]
        · show L.length - (i + 1) < L.length - i; omega
        · exact Env.subW_one rfl <| Env.subW_one rfl <| Env.subW_one (by first | rfl | (rw [map_snoc]; rfl)) <| Env.subW_one rfl <| Env.subW_nil _
        · exact Boxes.subW_nil _
      · try simp only [yb, yc, yd, ye, yf, yg, yh, yi, yj, yk, yl, ym, yn, yo] at h3
        refine awp_skip ?_
        refine block_n ?_
        refine then_n ?_
        refine awp_region_e (fun _ => false) (by rw [hB]; rfl) fun K hK base hbase hfr => tr_run ?_
        simp (disch := omega) only [go_sem, ↓reduceIte, za, zb, zc, zd, ze, zf, zg, zh, zi, zj, zk, zl, zm, zn, zo, dec_t, dec_f, ltI, leI, leN, le63, le40, le0, wrap64_id, wrapu64_id, wrap8_id]
        refine tr_nil (hK _ _ _ ?_)
        clear hK K hbase hfr base
        refine then_n ⟨(i + 1, up, out, t), ?_, ?_, ?_, ?_, Sh.sub_refl _⟩
        · refine ⟨?_, by show out.length ≤ i + 1; omega, hi, ht, h3b, h4b⟩
          show ofGo up out (L.drop (i + 1)) = _
          rw [← h0, drop_cons_of hx, ofGo, if_neg h2, if_neg (by omega)]
        · show L.length - (i + 1) < L.length - i; omega
        · exact Env.subW_one rfl <| Env.subW_one rfl <| Env.subW_one (by first | rfl | (rw [map_snoc]; rfl)) <| Env.subW_one rfl <| Env.subW_nil _
        · exact Boxes.subW_nil _
  · try simp only [yb, yc, yd, ye, yf, yg, yh, yi, yj, yk, yl, ym, yn, yo] at h1
    refine awp_exit ?_
    refine then_x ?_
    refine then_x ?_
    refine block_x ?_
    refine then_n ?_
    refine awp_region_k (fun _ => false) (by rw [hB]; rfl) fun K hK base hbase hfr => tr_run ?_
    simp (disch := omega) only [go_sem, ↓reduceIte, za, zb, zc, zd, ze, zf, zg, zh, zi, zj, zk, zl, zm, zn, zo, dec_t, dec_f, ltI, leI, leN, le63, le40, le0, wrap64_id, wrapu64_id, wrap8_id]
    refine tr_nil (hK _ _ _ ?_)
    clear hK K hbase hfr base
    refine awp_ret ?_
    refine ⟨_, rfl, ?_, fun _ _ h => h, fun _ h => List.mem_cons_of_mem _ h⟩
    have : cOf node up0 l = (up, out) := by rw [← h0, get_le h1]; rfl
    rw [this]; exact .tuple (.cons (.one (.refl _)) (.cons (.one (.no _ _)) .nil))
theorem c95 (m : Msg) : PCalls Go.Proofs.Tryz.prog 95 [msgV m] (.bool (mMay m)) := by
  rcases g0 : dCheck m.d with _ | _
  · simp only [mMay, Bool.or_true, Bool.or_false, Bool.false_or, Bool.and_true, Bool.and_false, Bool.false_and, Bool.true_and, Bool.true_or, Bool.or_self, Bool.and_self, Bool.cond_true, Bool.cond_false, Bool.not_true, Bool.not_false, g0]
    refine pcalls_of_awp Go.Proofs.Tryz.func95 rfl (by decide) (Nat.le_of_ble_eq_true rfl) ?_
    intro B σ hB ho hob
    refine awp_region_k (fun _ => false) (by rw [hB]; rfl) fun K hK base hbase hfr => tr_run ?_
    simp only [go_sem, ↓reduceIte, za, zb, zc, zd, ze, zf, zg, zh, zi, zj, zk, zl, zm, zn, zo, g0]
    refine tr_nil (hK _ _ _ ?_)
    clear hK K hbase hfr base
    refine awp_region_k (fun _ => false) (by rw [hB]; rfl) fun K hK base hbase hfr => tr_run ?_
    simp only [go_sem, ↓reduceIte, za, zb, zc, zd, ze, zf, zg, zh, zi, zj, zk, zl, zm, zn, zo, g0]
    refine tr_pc (by rfl) (by simp only [go_sem, ↓reduceIte, za, zb, zc, zd, ze, zf, zg, zh, zi, zj, zk, zl, zm, zn, zo, g0] <;> rfl) (c99 m.d) ?_
    simp only [go_sem, ↓reduceIte, za, zb, zc, zd, ze, zf, zg, zh, zi, zj, zk, zl, zm, zn, zo, g0]
    refine tr_nil (hK _ _ _ ?_)
    clear hK K hbase hfr base
    refine awp_region_k (fun _ => false) (by rw [hB]; rfl) fun K hK base hbase hfr => tr_run ?_
    simp only [go_sem, ↓reduceIte, za, zb, zc, zd, ze, zf, zg, zh, zi, zj, zk, zl, zm, zn, zo, g0]
    refine tr_nil (hK _ _ _ ?_)
    clear hK K hbase hfr base
    refine awp_ret ?_
    refine ⟨_, rfl, ?_, fun _ _ h => h, fun _ h => h⟩
    exact VW.refl _
  · rcases g1 : decide ((1 : Int) ≤ (m.q.length : Int)) with _ | _
    · simp only [mMay, Bool.or_true, Bool.or_false, Bool.false_or, Bool.and_true, Bool.and_false, Bool.false_and, Bool.true_and, Bool.true_or, Bool.or_self, Bool.and_self, Bool.cond_true, Bool.cond_false, Bool.not_true, Bool.not_false, g0, g1]
      refine pcalls_of_awp Go.Proofs.Tryz.func95 rfl (by decide) (Nat.le_of_ble_eq_true rfl) ?_
      intro B σ hB ho hob
      refine awp_region_k (fun _ => false) (by rw [hB]; rfl) fun K hK base hbase hfr => tr_run ?_
      simp only [go_sem, ↓reduceIte, za, zb, zc, zd, ze, zf, zg, zh, zi, zj, zk, zl, zm, zn, zo, g0, g1]
      refine tr_nil (hK _ _ _ ?_)
      clear hK K hbase hfr base
      refine awp_region_k (fun _ => false) (by rw [hB]; rfl) fun K hK base hbase hfr => tr_run ?_
      simp only [go_sem, ↓reduceIte, za, zb, zc, zd, ze, zf, zg, zh, zi, zj, zk, zl, zm, zn, zo, g0, g1]
      refine tr_pc (by rfl) (by simp only [go_sem, ↓reduceIte, za, zb, zc, zd, ze, zf, zg, zh, zi, zj, zk, zl, zm, zn, zo, g0, g1] <;> rfl) (c99 m.d) ?_
      simp only [go_sem, ↓reduceIte, za, zb, zc, zd, ze, zf, zg, zh, zi, zj, zk, zl, zm, zn, zo, g0, g1]
      refine tr_nil (hK _ _ _ ?_)
      clear hK K hbase hfr base
      refine awp_region_k (fun _ => false) (by rw [hB]; rfl) fun K hK base hbase hfr => tr_run ?_
      simp only [go_sem, ↓reduceIte, za, zb, zc, zd, ze, zf, zg, zh, zi, zj, zk, zl, zm, zn, zo, g0, g1]
      refine tr_nil (hK _ _ _ ?_)
      clear hK K hbase hfr base
      refine awp_ret ?_
      refine ⟨_, rfl, ?_, fun _ _ h => h, fun _ h => h⟩
      exact VW.refl _
    · rcases g2 : decide ((m.q.length : Int) ≤ 40) with _ | _
      · simp only [mMay, Bool.or_true, Bool.or_false, Bool.false_or, Bool.and_true, Bool.and_false, Bool.false_and, Bool.true_and, Bool.true_or, Bool.or_self, Bool.and_self, Bool.cond_true, Bool.cond_false, Bool.not_true, Bool.not_false, g0, g1, g2]
        refine pcalls_of_awp Go.Proofs.Tryz.func95 rfl (by decide) (Nat.le_of_ble_eq_true rfl) ?_
        intro B σ hB ho hob
        refine awp_region_k (fun _ => false) (by rw [hB]; rfl) fun K hK base hbase hfr => tr_run ?_
        simp only [go_sem, ↓reduceIte, za, zb, zc, zd, ze, zf, zg, zh, zi, zj, zk, zl, zm, zn, zo, g0, g1, g2]
        refine tr_nil (hK _ _ _ ?_)
        clear hK K hbase hfr base
        refine awp_region_k (fun _ => false) (by rw [hB]; rfl) fun K hK base hbase hfr => tr_run ?_
        simp only [go_sem, ↓reduceIte, za, zb, zc, zd, ze, zf, zg, zh, zi, zj, zk, zl, zm, zn, zo, g0, g1, g2]
        refine tr_pc (by rfl) (by simp only [go_sem, ↓reduceIte, za, zb, zc, zd, ze, zf, zg, zh, zi, zj, zk, zl, zm, zn, zo, g0, g1, g2] <;> rfl) (c99 m.d) ?_
        simp only [go_sem, ↓reduceIte, za, zb, zc, zd, ze, zf, zg, zh, zi, zj, zk, zl, zm, zn, zo, g0, g1, g2]
        refine tr_nil (hK _ _ _ ?_)
        clear hK K hbase hfr base
        refine awp_region_k (fun _ => false) (by rw [hB]; rfl) fun K hK base hbase hfr => tr_run ?_
        simp only [go_sem, ↓reduceIte, za, zb, zc, zd, ze, zf, zg, zh, zi, zj, zk, zl, zm, zn, zo, g0, g1, g2]
        refine tr_nil (hK _ _ _ ?_)
        clear hK K hbase hfr base
        refine awp_ret ?_
        refine ⟨_, rfl, ?_, fun _ _ h => h, fun _ h => h⟩
        exact VW.refl _
      · rcases g3 : decide ((m.b.length : Int) ≤ 1000) with _ | _
        · simp only [mMay, Bool.or_true, Bool.or_false, Bool.false_or, Bool.and_true, Bool.and_false, Bool.false_and, Bool.true_and, Bool.true_or, Bool.or_self, Bool.and_self, Bool.cond_true, Bool.cond_false, Bool.not_true, Bool.not_false, g0, g1, g2, g3]
          refine pcalls_of_awp Go.Proofs.Tryz.func95 rfl (by decide) (Nat.le_of_ble_eq_true rfl) ?_
          intro B σ hB ho hob
          refine awp_region_k (fun _ => false) (by rw [hB]; rfl) fun K hK base hbase hfr => tr_run ?_
          simp only [go_sem, ↓reduceIte, za, zb, zc, zd, ze, zf, zg, zh, zi, zj, zk, zl, zm, zn, zo, g0, g1, g2, g3]
          refine tr_nil (hK _ _ _ ?_)
          clear hK K hbase hfr base
          refine awp_region_k (fun _ => false) (by rw [hB]; rfl) fun K hK base hbase hfr => tr_run ?_
          simp only [go_sem, ↓reduceIte, za, zb, zc, zd, ze, zf, zg, zh, zi, zj, zk, zl, zm, zn, zo, g0, g1, g2, g3]
          refine tr_pc (by rfl) (by simp only [go_sem, ↓reduceIte, za, zb, zc, zd, ze, zf, zg, zh, zi, zj, zk, zl, zm, zn, zo, g0, g1, g2, g3] <;> rfl) (c99 m.d) ?_
          simp only [go_sem, ↓reduceIte, za, zb, zc, zd, ze, zf, zg, zh, zi, zj, zk, zl, zm, zn, zo, g0, g1, g2, g3]
          refine tr_nil (hK _ _ _ ?_)
          clear hK K hbase hfr base
          refine awp_region_k (fun _ => false) (by rw [hB]; rfl) fun K hK base hbase hfr => tr_run ?_
          simp only [go_sem, ↓reduceIte, za, zb, zc, zd, ze, zf, zg, zh, zi, zj, zk, zl, zm, zn, zo, g0, g1, g2, g3]
          refine tr_nil (hK _ _ _ ?_)
          clear hK K hbase hfr base
          refine awp_ret ?_
          refine ⟨_, rfl, ?_, fun _ _ h => h, fun _ h => h⟩
          exact VW.refl _
        · rcases g4 : decide (0 ≤ m.c) with _ | _
          · simp only [mMay, Bool.or_true, Bool.or_false, Bool.false_or, Bool.and_true, Bool.and_false, Bool.false_and, Bool.true_and, Bool.true_or, Bool.or_self, Bool.and_self, Bool.cond_true, Bool.cond_false, Bool.not_true, Bool.not_false, g0, g1, g2, g3, g4]
            refine pcalls_of_awp Go.Proofs.Tryz.func95 rfl (by decide) (Nat.le_of_ble_eq_true rfl) ?_
            intro B σ hB ho hob
            refine awp_region_k (fun _ => false) (by rw [hB]; rfl) fun K hK base hbase hfr => tr_run ?_
            simp only [go_sem, ↓reduceIte, za, zb, zc, zd, ze, zf, zg, zh, zi, zj, zk, zl, zm, zn, zo, g0, g1, g2, g3, g4]
            refine tr_nil (hK _ _ _ ?_)
            clear hK K hbase hfr base
            refine awp_region_k (fun _ => false) (by rw [hB]; rfl) fun K hK base hbase hfr => tr_run ?_
            simp only [go_sem, ↓reduceIte, za, zb, zc, zd, ze, zf, zg, zh, zi, zj, zk, zl, zm, zn, zo, g0, g1, g2, g3, g4]
            refine tr_pc (by rfl) (by simp only [go_sem, ↓reduceIte, za, zb, zc, zd, ze, zf, zg, zh, zi, zj, zk, zl, zm, zn, zo, g0, g1, g2, g3, g4] <;> rfl) (c99 m.d) ?_
            simp only [go_sem, ↓reduceIte, za, zb, zc, zd, ze, zf, zg, zh, zi, zj, zk, zl, zm, zn, zo, g0, g1, g2, g3, g4]
            refine tr_nil (hK _ _ _ ?_)
            clear hK K hbase hfr base
            refine awp_region_k (fun _ => false) (by rw [hB]; rfl) fun K hK base hbase hfr => tr_run ?_
            simp only [go_sem, ↓reduceIte, za, zb, zc, zd, ze, zf, zg, zh, zi, zj, zk, zl, zm, zn, zo, g0, g1, g2, g3, g4]
            refine tr_nil (hK _ _ _ ?_)
            clear hK K hbase hfr base
            refine awp_ret ?_
            refine ⟨_, rfl, ?_, fun _ _ h => h, fun _ h => h⟩
            exact VW.refl _
          · simp only [mMay, Bool.or_true, Bool.or_false, Bool.false_or, Bool.and_true, Bool.and_false, Bool.false_and, Bool.true_and, Bool.true_or, Bool.or_self, Bool.and_self, Bool.cond_true, Bool.cond_false, Bool.not_true, Bool.not_false, g0, g1, g2, g3, g4]
            refine pcalls_of_awp Go.Proofs.Tryz.func95 rfl (by decide) (Nat.le_of_ble_eq_true rfl) ?_
            intro B σ hB ho hob
            refine awp_region_k (fun _ => false) (by rw [hB]; rfl) fun K hK base hbase hfr => tr_run ?_
            simp only [go_sem, ↓reduceIte, za, zb, zc, zd, ze, zf, zg, zh, zi, zj, zk, zl, zm, zn, zo, g0, g1, g2, g3, g4]
            refine tr_nil (hK _ _ _ ?_)
            clear hK K hbase hfr base
            refine awp_region_k (fun _ => false) (by rw [hB]; rfl) fun K hK base hbase hfr => tr_run ?_
            simp only [go_sem, ↓reduceIte, za, zb, zc, zd, ze, zf, zg, zh, zi, zj, zk, zl, zm, zn, zo, g0, g1, g2, g3, g4]
            refine tr_pc (by rfl) (by simp only [go_sem, ↓reduceIte, za, zb, zc, zd, ze, zf, zg, zh, zi, zj, zk, zl, zm, zn, zo, g0, g1, g2, g3, g4] <;> rfl) (c99 m.d) ?_
            simp only [go_sem, ↓reduceIte, za, zb, zc, zd, ze, zf, zg, zh, zi, zj, zk, zl, zm, zn, zo, g0, g1, g2, g3, g4]
            refine tr_nil (hK _ _ _ ?_)
            clear hK K hbase hfr base
            refine awp_region_k (fun _ => false) (by rw [hB]; rfl) fun K hK base hbase hfr => tr_run ?_
            simp only [go_sem, ↓reduceIte, za, zb, zc, zd, ze, zf, zg, zh, zi, zj, zk, zl, zm, zn, zo, g0, g1, g2, g3, g4]
            refine tr_nil (hK _ _ _ ?_)
            clear hK K hbase hfr base
            refine awp_ret ?_
            refine ⟨_, rfl, ?_, fun _ _ h => h, fun _ h => h⟩
            exact VW.refl _
theorem c96 (c : Ctx) (t1 t2 : Tag) (d : Int × Int) : PCalls Go.Proofs.Tryz.prog 96 [ctxV c t1 t2, dot d] (.bool (cHas c d)) := by
  rcases g0 : dCheck d with _ | _
  · simp only [cHas, Bool.or_true, Bool.or_false, Bool.false_or, Bool.and_true, Bool.and_false, Bool.false_and, Bool.true_and, Bool.true_or, Bool.or_self, Bool.and_self, Bool.cond_true, Bool.cond_false, Bool.not_true, Bool.not_false, g0]
    refine pcalls_of_awp Go.Proofs.Tryz.func96 rfl (by decide) (Nat.le_of_ble_eq_true rfl) ?_
    intro B σ hB ho hob
    refine awp_region_k (fun _ => false) (by rw [hB]; rfl) fun K hK base hbase hfr => tr_run ?_
    simp only [go_sem, ↓reduceIte, za, zb, zc, zd, ze, zf, zg, zh, zi, zj, zk, zl, zm, zn, zo, g0]
    refine tr_nil (hK _ _ _ ?_)
    clear hK K hbase hfr base
    refine awp_region_k (fun _ => false) (by rw [hB]; rfl) fun K hK base hbase hfr => tr_run ?_
    simp only [go_sem, ↓reduceIte, za, zb, zc, zd, ze, zf, zg, zh, zi, zj, zk, zl, zm, zn, zo, g0]
    refine tr_pc (by rfl) (by simp only [go_sem, ↓reduceIte, za, zb, zc, zd, ze, zf, zg, zh, zi, zj, zk, zl, zm, zn, zo, g0] <;> rfl) (c99 d) ?_
    simp only [go_sem, ↓reduceIte, za, zb, zc, zd, ze, zf, zg, zh, zi, zj, zk, zl, zm, zn, zo, g0]
    refine tr_nil (hK _ _ _ ?_)
    clear hK K hbase hfr base
    refine awp_region_k (fun _ => false) (by rw [hB]; rfl) fun K hK base hbase hfr => tr_run ?_
    simp only [go_sem, ↓reduceIte, za, zb, zc, zd, ze, zf, zg, zh, zi, zj, zk, zl, zm, zn, zo, g0]
    refine tr_pc (by rfl) (by simp only [go_sem, ↓reduceIte, za, zb, zc, zd, ze, zf, zg, zh, zi, zj, zk, zl, zm, zn, zo, g0] <;> rfl) (c155 c.cloud t2 d) ?_
    simp only [go_sem, ↓reduceIte, za, zb, zc, zd, ze, zf, zg, zh, zi, zj, zk, zl, zm, zn, zo, g0]
    refine tr_nil (hK _ _ _ ?_)
    clear hK K hbase hfr base
    refine awp_drawn_k (fun f => f == 102) (fun _ => false) (by kernel_rfl) (by decide) (by rw [hB]; rfl) fun K hK base hbase hfr => trd_run ?_
    simp only [go_sem, ↓reduceIte, za, zb, zc, zd, ze, zf, zg, zh, zi, zj, zk, zl, zm, zn, zo, g0]
    refine trd_nil (hK _ _ _ ?_)
    clear hK K hbase hfr base
    refine awp_ret ?_
    refine ⟨_, rfl, ?_, fun _ _ h => h, fun _ h => h⟩
    exact VW.refl _
  · rcases g1 : decide (d.2 ≤ dBase c.base d.1) with _ | _
    · simp only [cHas, Bool.or_true, Bool.or_false, Bool.false_or, Bool.and_true, Bool.and_false, Bool.false_and, Bool.true_and, Bool.true_or, Bool.or_self, Bool.and_self, Bool.cond_true, Bool.cond_false, Bool.not_true, Bool.not_false, g0, g1]
      refine pcalls_of_awp Go.Proofs.Tryz.func96 rfl (by decide) (Nat.le_of_ble_eq_true rfl) ?_
      intro B σ hB ho hob
      refine awp_region_k (fun _ => false) (by rw [hB]; rfl) fun K hK base hbase hfr => tr_run ?_
      simp only [go_sem, ↓reduceIte, za, zb, zc, zd, ze, zf, zg, zh, zi, zj, zk, zl, zm, zn, zo, g0, g1]
      refine tr_nil (hK _ _ _ ?_)
      clear hK K hbase hfr base
      refine awp_region_k (fun _ => false) (by rw [hB]; rfl) fun K hK base hbase hfr => tr_run ?_
      simp only [go_sem, ↓reduceIte, za, zb, zc, zd, ze, zf, zg, zh, zi, zj, zk, zl, zm, zn, zo, g0, g1]
      refine tr_pc (by rfl) (by simp only [go_sem, ↓reduceIte, za, zb, zc, zd, ze, zf, zg, zh, zi, zj, zk, zl, zm, zn, zo, g0, g1] <;> rfl) (c99 d) ?_
      simp only [go_sem, ↓reduceIte, za, zb, zc, zd, ze, zf, zg, zh, zi, zj, zk, zl, zm, zn, zo, g0, g1]
      refine tr_nil (hK _ _ _ ?_)
      clear hK K hbase hfr base
      refine awp_region_k (fun _ => false) (by rw [hB]; rfl) fun K hK base hbase hfr => tr_run ?_
      simp only [go_sem, ↓reduceIte, za, zb, zc, zd, ze, zf, zg, zh, zi, zj, zk, zl, zm, zn, zo, g0, g1]
      refine tr_pc (by rfl) (by simp only [go_sem, ↓reduceIte, za, zb, zc, zd, ze, zf, zg, zh, zi, zj, zk, zl, zm, zn, zo, g0, g1] <;> rfl) (c155 c.cloud t2 d) ?_
      simp only [go_sem, ↓reduceIte, za, zb, zc, zd, ze, zf, zg, zh, zi, zj, zk, zl, zm, zn, zo, g0, g1]
      refine tr_nil (hK _ _ _ ?_)
      clear hK K hbase hfr base
      refine awp_drawn_k (fun f => f == 102) (fun _ => false) (by kernel_rfl) (by decide) (by rw [hB]; rfl) fun K hK base hbase hfr => trd_run ?_
      simp only [go_sem, ↓reduceIte, za, zb, zc, zd, ze, zf, zg, zh, zi, zj, zk, zl, zm, zn, zo, g0, g1]
      refine trd_pc (by kernel_rfl) (by simp only [go_sem, ↓reduceIte, za, zb, zc, zd, ze, zf, zg, zh, zi, zj, zk, zl, zm, zn, zo, g0, g1]) (by simp only [go_sem, ↓reduceIte, za, zb, zc, zd, ze, zf, zg, zh, zi, zj, zk, zl, zm, zn, zo, g0, g1] <;> rfl) (c102 c t1 t2 d.1) ?_
      simp only [go_sem, ↓reduceIte, za, zb, zc, zd, ze, zf, zg, zh, zi, zj, zk, zl, zm, zn, zo, g0, g1]
      refine trd_nil (hK _ _ _ ?_)
      clear hK K hbase hfr base
      refine awp_ret ?_
      refine ⟨_, rfl, ?_, fun _ _ h => h, fun _ h => h⟩
      exact VW.refl _
    · simp only [cHas, Bool.or_true, Bool.or_false, Bool.false_or, Bool.and_true, Bool.and_false, Bool.false_and, Bool.true_and, Bool.true_or, Bool.or_self, Bool.and_self, Bool.cond_true, Bool.cond_false, Bool.not_true, Bool.not_false, g0, g1]
      refine pcalls_of_awp Go.Proofs.Tryz.func96 rfl (by decide) (Nat.le_of_ble_eq_true rfl) ?_
      intro B σ hB ho hob
      refine awp_region_k (fun _ => false) (by rw [hB]; rfl) fun K hK base hbase hfr => tr_run ?_
      simp only [go_sem, ↓reduceIte, za, zb, zc, zd, ze, zf, zg, zh, zi, zj, zk, zl, zm, zn, zo, g0, g1]
      refine tr_nil (hK _ _ _ ?_)
      clear hK K hbase hfr base
      refine awp_region_k (fun _ => false) (by rw [hB]; rfl) fun K hK base hbase hfr => tr_run ?_
      simp only [go_sem, ↓reduceIte, za, zb, zc, zd, ze, zf, zg, zh, zi, zj, zk, zl, zm, zn, zo, g0, g1]
      refine tr_pc (by rfl) (by simp only [go_sem, ↓reduceIte, za, zb, zc, zd, ze, zf, zg, zh, zi, zj, zk, zl, zm, zn, zo, g0, g1] <;> rfl) (c99 d) ?_
      simp only [go_sem, ↓reduceIte, za, zb, zc, zd, ze, zf, zg, zh, zi, zj, zk, zl, zm, zn, zo, g0, g1]
      refine tr_nil (hK _ _ _ ?_)
      clear hK K hbase hfr base
      refine awp_region_k (fun _ => false) (by rw [hB]; rfl) fun K hK base hbase hfr => tr_run ?_
      simp only [go_sem, ↓reduceIte, za, zb, zc, zd, ze, zf, zg, zh, zi, zj, zk, zl, zm, zn, zo, g0, g1]
      refine tr_pc (by rfl) (by simp only [go_sem, ↓reduceIte, za, zb, zc, zd, ze, zf, zg, zh, zi, zj, zk, zl, zm, zn, zo, g0, g1] <;> rfl) (c155 c.cloud t2 d) ?_
      simp only [go_sem, ↓reduceIte, za, zb, zc, zd, ze, zf, zg, zh, zi, zj, zk, zl, zm, zn, zo, g0, g1]
      refine tr_nil (hK _ _ _ ?_)
      clear hK K hbase hfr base
      refine awp_drawn_k (fun f => f == 102) (fun _ => false) (by kernel_rfl) (by decide) (by rw [hB]; rfl) fun K hK base hbase hfr => trd_run ?_
      simp only [go_sem, ↓reduceIte, za, zb, zc, zd, ze, zf, zg, zh, zi, zj, zk, zl, zm, zn, zo, g0, g1]
      refine trd_pc (by kernel_rfl) (by simp only [go_sem, ↓reduceIte, za, zb, zc, zd, ze, zf, zg, zh, zi, zj, zk, zl, zm, zn, zo, g0, g1]) (by simp only [go_sem, ↓reduceIte, za, zb, zc, zd, ze, zf, zg, zh, zi, zj, zk, zl, zm, zn, zo, g0, g1] <;> rfl) (c102 c t1 t2 d.1) ?_
      simp only [go_sem, ↓reduceIte, za, zb, zc, zd, ze, zf, zg, zh, zi, zj, zk, zl, zm, zn, zo, g0, g1]
      refine trd_nil (hK _ _ _ ?_)
      clear hK K hbase hfr base
      refine awp_ret ?_
      refine ⟨_, rfl, ?_, fun _ _ h => h, fun _ h => h⟩
      exact VW.refl _
end Go.Am
