/- What functions of this program compute, a part: see the main text. No conditions. -/
import Derived.Test.YtanpeaakmdffcaaGreatW17
set_option linter.all false
set_option maxRecDepth 100000
namespace Go.Am
open Go
open Nat renaming reduceEqDiff → za, reduceAdd → zb, reduceMul → zc, reducePow → zd, reduceLeDiff → ze, reduceSub → zf, reduceBEq → zg, reduceBNe → zh, reduceDiv → zi, reduceMod → zj
open Int renaming reduceLT → zk, reduceLE → zl, reduceEq → zm, reduceNe → zn, reduceToNat → zo
def bPick (l : List Msg) (d : Int × Int) : List Msg := l.filter fun m => sameDot m.d d
def bSorted (l : List Msg) : List Msg := (dSort (l.map (·.d))).flatMap (bPick l)
theorem flatMap_snoc {α β : Type} (f : α → List β) (l : List α) (x : α) : (l ++ [x]).flatMap f = l.flatMap f ++ f x := by simp
theorem c97 (l : List Msg) (tg : Tag) (hl : l.length ≤ 1048576) : PCalls Go.Proofs.Tryz.prog 97 [.list (l.map msgV) tg] (.list ((bSorted l).map msgV) .no) := by
  have hD := dSort_length (l.map (·.d))
  simp only [List.length_map] at hD
  refine pcalls_of_awp Go.Proofs.Tryz.func97 rfl (by decide) (Nat.le_of_ble_eq_true rfl) ?_
  intro B σ hB ho hob
  refine awp_region_k (fun _ => false) (by rw [hB]; rfl) fun K hK base hbase hfr => tr_run ?_
  simp (disch := omega) only [go_sem, ↓reduceIte, za, zb, zc, zd, ze, zf, zg, zh, zi, zj, zk, zl, zm, zn, zo, dec_t, dec_f, ltI, leI, leN, le63, le40, le0, wrap64_id, wrapu64_id, wrap8_id]
  refine tr_nil (hK _ _ _ ?_)
  clear hK K hbase hfr base
  refine awp_region_k (fun _ => false) (by rw [hB]; rfl) fun K hK base hbase hfr => tr_run ?_
  simp (disch := omega) only [go_sem, ↓reduceIte, za, zb, zc, zd, ze, zf, zg, zh, zi, zj, zk, zl, zm, zn, zo, dec_t, dec_f, ltI, leI, leN, le63, le40, le0, wrap64_id, wrapu64_id, wrap8_id]
  refine tr_nil (hK _ _ _ ?_)
  clear hK K hbase hfr base
  refine awp_seq ?_
  refine awp_region_k (fun _ => false) (by rw [hB]; rfl) fun K hK base hbase hfr => tr_run ?_
  simp (disch := omega) only [go_sem, ↓reduceIte, za, zb, zc, zd, ze, zf, zg, zh, zi, zj, zk, zl, zm, zn, zo, dec_t, dec_f, ltI, leI, leN, le63, le40, le0, wrap64_id, wrapu64_id, wrap8_id]
  refine tr_nil (hK _ _ _ ?_)
  clear hK K hbase hfr base
  refine awp_block ?_
  refine awp_tok 3 rfl fun t0 ht0 => ?_
  refine awp_loop_w (α := Nat × List (Int × Int) × Nat) (fun x => x.2.1 = (l.take x.1).map (·.d) ∧ x.1 ≤ l.length ∧ B.g.nt ≤ x.2.2) (fun x => [(0, .list (l.map msgV) tg), (3, .list (x.2.1.map dot) (.tok x.2.2)), (4, .int .i64 x.1)]) (fun x => []) (fun x => { σ with live := x.2.2 :: σ.live }) (fun x => l.length - x.1) (0, [], t0) ?_ ?_ (Boxes.subW_nil _) (Sh.sub_refl _) ?_
  · exact ⟨rfl, Nat.zero_le _, ht0⟩
  · exact Env.subW_one rfl <| Env.subW_one rfl <| Env.subW_one rfl <| Env.subW_nil _
  rintro ⟨i, out, t⟩ ⟨h0, ho2, ht⟩
  try dsimp only at h0 ho2 ht
  have hol : out.length = i := by rw [h0]; simp; omega
  refine awp_seq ?_
  refine awp_region_k (fun _ => false) (by rw [hB]; rfl) fun K hK base hbase hfr => tr_run ?_
  simp (disch := omega) only [go_sem, ↓reduceIte, za, zb, zc, zd, ze, zf, zg, zh, zi, zj, zk, zl, zm, zn, zo, dec_t, dec_f, ltI, leI, leN, le63, le40, le0, wrap64_id, wrapu64_id, wrap8_id]
  refine tr_nil (hK _ _ _ ?_)
  clear hK K hbase hfr base
  refine awp_cond (rfl) (fun h1 => ?_) (fun h1 => ?_)
  · try simp only [yb, yc, yd, ye, yf, yg, yh, yi, yj, yk, yl, ym, yn, yo] at h1
    obtain ⟨x, hx, hm, hi⟩ := get_of_lt h1
    refine awp_skip ?_
    refine then_n ?_
    refine awp_seq ?_
    refine awp_block ?_
    refine awp_region_e (fun _ => false) (by rw [hB]; rfl) fun K hK base hbase hfr => tr_run ?_
    simp (disch := omega) only [go_sem, ↓reduceIte, za, zb, zc, zd, ze, zf, zg, zh, zi, zj, zk, zl, zm, zn, zo, hx, ho, dec_t, dec_f, ltI, leI, leN, le63, le40, le0, wrap64_id, wrapu64_id, wrap8_id]
    refine tr_nil (hK _ _ _ ?_)
    clear hK K hfr
    refine block_n ?_
    refine then_n ?_
    refine awp_region_e (fun _ => false) (by rw [hB]; rfl) fun K hK base hbase hfr => tr_run ?_
    simp (disch := omega) only [go_sem, ↓reduceIte, za, zb, zc, zd, ze, zf, zg, zh, zi, zj, zk, zl, zm, zn, zo, dec_t, dec_f, ltI, leI, leN, le63, le40, le0, wrap64_id, wrapu64_id, wrap8_id]
    refine tr_nil (hK _ _ _ ?_)
    clear hK K hbase hfr base
    refine then_n ⟨(i + 1, out ++ [x.d], base + 7), ?_, ?_, ?_, ?_, Sh.sub_refl _⟩
    · refine ⟨?_, hi, Nat.le_trans hbase (Nat.le_add_right _ _)⟩
      show out ++ [x.d] = (l.take (i + 1)).map (·.d)
      rw [h0, take_snoc hx]; simp
    · show l.length - (i + 1) < l.length - i; omega
    · exact Env.subW_one rfl <| Env.subW_one (by rw [map_snoc]; rfl) <| Env.subW_one rfl <| Env.subW_nil _
    · exact Boxes.subW_nil _
  · try simp only [yb, yc, yd, ye, yf, yg, yh, yi, yj, yk, yl, ym, yn, yo] at h1
    refine awp_exit ?_
    refine then_x ?_
    refine then_x ?_
    refine block_x ?_
    refine then_n ?_
    have e : out = l.map (·.d) := by rw [h0, show i = l.length by omega]; simp
    subst e
    refine awp_region_k (fun _ => false) (by rw [hB]; rfl) fun K hK base hbase hfr => tr_run ?_
    simp (disch := omega) only [go_sem, ↓reduceIte, za, zb, zc, zd, ze, zf, zg, zh, zi, zj, zk, zl, zm, zn, zo, dec_t, dec_f, ltI, leI, leN, le63, le40, le0, wrap64_id, wrapu64_id, wrap8_id]
    refine tr_pc (by rfl) (by simp only [go_sem, ↓reduceIte, za, zb, zc, zd, ze, zf, zg, zh, zi, zj, zk, zl, zm, zn, zo] <;> rfl) (c156 _ _ (by simp only [List.length_map]; omega)) ?_
    simp (disch := omega) only [go_sem, ↓reduceIte, za, zb, zc, zd, ze, zf, zg, zh, zi, zj, zk, zl, zm, zn, zo, dec_t, dec_f, ltI, leI, leN, le63, le40, le0, wrap64_id, wrapu64_id, wrap8_id]
    refine tr_nil (hK _ _ _ ?_)
    clear hK K hbase hfr base
    refine awp_region_k (fun _ => false) (by rw [hB]; rfl) fun K hK base hbase hfr => tr_run ?_
    simp (disch := omega) only [go_sem, ↓reduceIte, za, zb, zc, zd, ze, zf, zg, zh, zi, zj, zk, zl, zm, zn, zo, dec_t, dec_f, ltI, leI, leN, le63, le40, le0, wrap64_id, wrapu64_id, wrap8_id]
    refine tr_nil (hK _ _ _ ?_)
    clear hK K hbase hfr base
    refine awp_seq ?_
    refine awp_region_k (fun _ => false) (by rw [hB]; rfl) fun K hK base hbase hfr => tr_run ?_
    simp (disch := omega) only [go_sem, ↓reduceIte, za, zb, zc, zd, ze, zf, zg, zh, zi, zj, zk, zl, zm, zn, zo, dec_t, dec_f, ltI, leI, leN, le63, le40, le0, wrap64_id, wrapu64_id, wrap8_id]
    refine tr_nil (hK _ _ _ ?_)
    clear hK K hbase hfr base
    refine awp_block ?_
    refine awp_tok 5 rfl fun t1 ht1 => ?_
    refine awp_loop_w (α := Nat × List Msg × Nat) (fun x => x.2.1 = ((dSort (l.map (·.d))).take x.1).flatMap (bPick l) ∧ x.2.1.length ≤ x.1 * l.length ∧ x.1 ≤ (dSort (l.map (·.d))).length ∧ B.g.nt ≤ x.2.2) (fun x => [(0, .list (l.map msgV) tg), (3, dots (dSort (l.map (·.d))) .no), (5, .list (x.2.1.map msgV) (.tok x.2.2)), (6, .int .i64 x.1)]) (fun x => []) (fun x => { σ with live := x.2.2 :: σ.live }) (fun x => (dSort (l.map (·.d))).length - x.1) (0, [], t1) ?_ ?_ (Boxes.subW_nil _) ⟨fun _ _ h => h, live_sub⟩ ?_
    · exact ⟨rfl, Nat.zero_le _, Nat.zero_le _, ht1⟩
    · exact Env.subW_one rfl <| Env.subW_one rfl <| Env.subW_one rfl <| Env.subW_one rfl <| Env.subW_nil _
    clear h0 ho2 ht hol
    rintro ⟨k, out, t⟩ ⟨h0, ho1, ho2, ht⟩
    try dsimp only at h0 ho1 ho2 ht
    refine awp_seq ?_
    refine awp_region_k (fun _ => false) (by rw [hB]; rfl) fun K hK base hbase hfr => tr_run ?_
    simp (disch := omega) only [go_sem, ↓reduceIte, za, zb, zc, zd, ze, zf, zg, zh, zi, zj, zk, zl, zm, zn, zo, dec_t, dec_f, ltI, leI, leN, le63, le40, le0, wrap64_id, wrapu64_id, wrap8_id]
    refine tr_nil (hK _ _ _ ?_)
    clear hK K hbase hfr base
    refine awp_cond (rfl) (fun h2 => ?_) (fun h2 => ?_)
    · try simp only [yb, yc, yd, ye, yf, yg, yh, yi, yj, yk, yl, ym, yn, yo] at h2
      obtain ⟨d, hd, hdm, hki⟩ := get_of_lt h2
      refine awp_skip ?_
      refine then_n ?_
      refine awp_seq ?_
      refine awp_block ?_
      refine awp_region_k (fun _ => false) (by rw [hB]; rfl) fun K hK base hbase hfr => tr_run ?_
      simp (disch := omega) only [go_sem, ↓reduceIte, za, zb, zc, zd, ze, zf, zg, zh, zi, zj, zk, zl, zm, zn, zo, dec_t, dec_f, ltI, leI, leN, le63, le40, le0, wrap64_id, wrapu64_id, wrap8_id]
      refine tr_nil (hK _ _ _ ?_)
      clear hK K hbase hfr base
      refine awp_block ?_
      refine awp_loop_w (α := Nat × List Msg × Nat) (fun x => x.2.1 = out ++ bPick (l.take x.1) d ∧ x.1 ≤ l.length ∧ B.g.nt ≤ x.2.2) (fun x => [(0, .list (l.map msgV) tg), (3, dots (dSort (l.map (·.d))) .no), (5, .list (x.2.1.map msgV) (.tok x.2.2)), (6, .int .i64 k), (7, .int .i64 x.1)]) (fun x => []) (fun x => { σ with live := x.2.2 :: σ.live }) (fun x => l.length - x.1) (0, out, t) ?_ ?_ (Boxes.subW_nil _) (Sh.sub_refl _) ?_
      · exact ⟨by simp [bPick], Nat.zero_le _, ht⟩
      · exact Env.subW_one rfl <| Env.subW_one rfl <| Env.subW_one rfl <| Env.subW_one rfl <| Env.subW_one rfl <| Env.subW_nil _
      rintro ⟨j, out2, t2⟩ ⟨hi2, hj2, ht2⟩
      try dsimp only at hi2 hj2 ht2
      have hol : out2.length ≤ out.length + j := by
        rw [hi2, List.length_append]
        exact Nat.add_le_add_left (Nat.le_trans (List.length_filter_le _ _) (by simp; omega)) _
      have hbig : out.length ≤ 1048576 * 1048576 - 1048576 := by
        have : k * l.length ≤ 1048575 * 1048576 := Nat.mul_le_mul (by omega) (by omega)
        omega
      refine awp_seq ?_
      refine awp_region_k (fun _ => false) (by rw [hB]; rfl) fun K hK base hbase hfr => tr_run ?_
      simp (disch := omega) only [go_sem, ↓reduceIte, za, zb, zc, zd, ze, zf, zg, zh, zi, zj, zk, zl, zm, zn, zo, dec_t, dec_f, ltI, leI, leN, le63, le40, le0, wrap64_id, wrapu64_id, wrap8_id]
      refine tr_nil (hK _ _ _ ?_)
      clear hK K hbase hfr base
      refine awp_cond (rfl) (fun h3 => ?_) (fun h3 => ?_)
      · try simp only [yb, yc, yd, ye, yf, yg, yh, yi, yj, yk, yl, ym, yn, yo] at h3
        obtain ⟨x, hx, hm, hi⟩ := get_of_lt h3
        refine awp_skip ?_
        refine then_n ?_
        refine awp_seq ?_
        refine awp_block ?_
        refine awp_drawn_k (fun _ => false) (fun _ => false) (by kernel_rfl) (by decide) (by rw [hB]; rfl) fun K hK base hbase hfr => trd_run ?_
        simp (disch := omega) only [go_sem, ↓reduceIte, za, zb, zc, zd, ze, zf, zg, zh, zi, zj, zk, zl, zm, zn, zo, hx, hd, dec_t, dec_f, ltI, leI, leN, le63, le40, le0, wrap64_id, wrapu64_id, wrap8_id]
        refine trd_nil (hK _ _ _ ?_)
        clear hK K hbase hfr base
        refine awp_cond (rfl) (fun h4 => ?_) (fun h4 => ?_)
        · try simp only [yb, yc, yd, ye, yf, yg, yh, yi, yj, yk, yl, ym, yn, yo] at h4
          have hsd : (x.d.1 == d.1 && x.d.2 == d.2) = true := by simp_all
          refine awp_region_e (fun _ => false) (by rw [hB]; rfl) fun K hK base hbase hfr => tr_run ?_
          simp (disch := omega) only [go_sem, ↓reduceIte, za, zb, zc, zd, ze, zf, zg, zh, zi, zj, zk, zl, zm, zn, zo, hx, ho, dec_t, dec_f, ltI, leI, leN, le63, le40, le0, wrap64_id, wrapu64_id, wrap8_id]
          refine tr_nil (hK _ _ _ ?_)
          clear hK K hfr
          refine block_n ?_
          refine then_n ?_
          refine awp_region_e (fun _ => false) (by rw [hB]; rfl) fun K hK base hbase hfr => tr_run ?_
          simp (disch := omega) only [go_sem, ↓reduceIte, za, zb, zc, zd, ze, zf, zg, zh, zi, zj, zk, zl, zm, zn, zo, dec_t, dec_f, ltI, leI, leN, le63, le40, le0, wrap64_id, wrapu64_id, wrap8_id]
          refine tr_nil (hK _ _ _ ?_)
          clear hK K hbase hfr base
          refine then_n ⟨(j + 1, out2 ++ [x], base + 6), ?_, ?_, ?_, ?_, Sh.sub_refl _⟩
          · refine ⟨?_, hi, Nat.le_trans hbase (Nat.le_add_right _ _)⟩
            show out2 ++ [x] = out ++ bPick (l.take (j + 1)) d
            rw [hi2, take_snoc hx, bPick, bPick, List.filter_append, List.append_assoc]
            simp [sameDot, hsd]
          · show l.length - (j + 1) < l.length - j; omega
          · exact Env.subW_one rfl <| Env.subW_one rfl <| Env.subW_one (by first | rfl | (rw [map_snoc]; rfl)) <| Env.subW_one rfl <| Env.subW_one rfl <| Env.subW_nil _
          · exact Boxes.subW_nil _
        · try simp only [yb, yc, yd, ye, yf, yg, yh, yi, yj, yk, yl, ym, yn, yo] at h4
          have hsd : (x.d.1 == d.1 && x.d.2 == d.2) = false := by cases hh : (x.d.1 == d.1 && x.d.2 == d.2) <;> simp_all
          refine awp_skip ?_
          refine block_n ?_
          refine then_n ?_
          refine awp_region_e (fun _ => false) (by rw [hB]; rfl) fun K hK base hbase hfr => tr_run ?_
          simp (disch := omega) only [go_sem, ↓reduceIte, za, zb, zc, zd, ze, zf, zg, zh, zi, zj, zk, zl, zm, zn, zo, dec_t, dec_f, ltI, leI, leN, le63, le40, le0, wrap64_id, wrapu64_id, wrap8_id]
          refine tr_nil (hK _ _ _ ?_)
          clear hK K hbase hfr base
          refine then_n ⟨(j + 1, out2, t2), ?_, ?_, ?_, ?_, Sh.sub_refl _⟩
          · refine ⟨?_, hi, ht2⟩
            show out2 = out ++ bPick (l.take (j + 1)) d
            rw [hi2, take_snoc hx, bPick, bPick, List.filter_append]
            simp [sameDot, hsd]
          · show l.length - (j + 1) < l.length - j; omega
          · exact Env.subW_one rfl <| Env.subW_one rfl <| Env.subW_one (by first | rfl | (rw [map_snoc]; rfl)) <| Env.subW_one rfl <| Env.subW_one rfl <| Env.subW_nil _
          · exact Boxes.subW_nil _
      · try simp only [yb, yc, yd, ye, yf, yg, yh, yi, yj, yk, yl, ym, yn, yo] at h3
        refine awp_exit ?_
        refine then_x ?_
        refine then_x ?_
        refine block_x ?_
        refine block_n ?_
        refine then_n ?_
        refine awp_region_e (fun _ => false) (by rw [hB]; rfl) fun K hK base hbase hfr => tr_run ?_
        simp (disch := omega) only [go_sem, ↓reduceIte, za, zb, zc, zd, ze, zf, zg, zh, zi, zj, zk, zl, zm, zn, zo, dec_t, dec_f, ltI, leI, leN, le63, le40, le0, wrap64_id, wrapu64_id, wrap8_id]
        refine tr_nil (hK _ _ _ ?_)
        clear hK K hbase hfr base
        refine then_n ⟨(k + 1, out2, t2), ?_, ?_, ?_, ?_, Sh.sub_refl _⟩
        · refine ⟨?_, ?_, hki, ht2⟩
          · show out2 = ((dSort (l.map (·.d))).take (k + 1)).flatMap (bPick l)
            rw [take_snoc hd, flatMap_snoc, ← h0, hi2, List.take_of_length_le (by omega)]
          · show out2.length ≤ (k + 1) * l.length
            rw [hi2, List.length_append, Nat.add_mul, Nat.one_mul]
            exact Nat.add_le_add ho1 (Nat.le_trans (List.length_filter_le _ _) (by simp; omega))
        · show (dSort (l.map (·.d))).length - (k + 1) < (dSort (l.map (·.d))).length - k; omega
        · exact Env.subW_one rfl <| Env.subW_one rfl <| Env.subW_one rfl <| Env.subW_one rfl <| Env.subW_nil _
        · exact Boxes.subW_nil _
    · try simp only [yb, yc, yd, ye, yf, yg, yh, yi, yj, yk, yl, ym, yn, yo] at h2
      refine awp_exit ?_
      refine then_x ?_
      refine then_x ?_
      refine block_x ?_
      refine then_n ?_
      refine awp_region_k (fun _ => false) (by rw [hB]; rfl) fun K hK base hbase hfr => tr_run ?_
      simp (disch := omega) only [go_sem, ↓reduceIte, za, zb, zc, zd, ze, zf, zg, zh, zi, zj, zk, zl, zm, zn, zo, dec_t, dec_f, ltI, leI, leN, le63, le40, le0, wrap64_id, wrapu64_id, wrap8_id]
      refine tr_nil (hK _ _ _ ?_)
      clear hK K hbase hfr base
      refine awp_ret ?_
      refine ⟨_, rfl, ?_, fun _ _ h => h, fun _ h => List.mem_cons_of_mem _ h⟩
      have : bSorted l = out := by rw [h0, List.take_of_length_le (by omega)]; rfl
      rw [this]; exact .one (.one (.no _ _))
end Go.Am
namespace Go.Am
open Go
open Nat renaming reduceEqDiff → za, reduceAdd → zb, reduceMul → zc, reducePow → zd, reduceLeDiff → ze, reduceSub → zf, reduceBEq → zg, reduceBNe → zh, reduceDiv → zi, reduceMod → zj
open Int renaming reduceLT → zk, reduceLE → zl, reduceEq → zm, reduceNe → zn, reduceToNat → zo
def bag0 : Bag := ⟨[], ⟨[], []⟩⟩
def bPut (b : Bag) (m : Msg) : Bag × Int := if mMay m = false then (bag0, 1) else if cHas b.ctx m.d = true then (bag0, 13) else (⟨bSorted (b.live ++ [m]), cAdd b.ctx [m.d]⟩, 0)
theorem c41 (b : Bag) (t0 t1 t2 : Tag) (m : Msg) (hc : Cok b.ctx) (hl : b.live.length ≤ 1000000) : PCalls Go.Proofs.Tryz.prog 41 [bagV b t0 t1 t2, msgV m] (.tuple [bagV (bPut b m).1 .no .no .no, .int .i64 (bPut b m).2]) := by
  refine pcalls_of_awp Go.Proofs.Tryz.func41 rfl (by decide) (Nat.le_of_ble_eq_true rfl) ?_
  intro B σ hB ho hob
  refine awp_region_k (fun _ => false) (by rw [hB]; rfl) fun K hK base hbase hfr => tr_run ?_
  simp (disch := omega) only [go_sem, ↓reduceIte, za, zb, zc, zd, ze, zf, zg, zh, zi, zj, zk, zl, zm, zn, zo, dec_t, dec_f, ltI, leI, leN, le63, le40, le0, wrap64_id, wrapu64_id, wrap8_id]
  refine tr_nil (hK _ _ _ ?_)
  clear hK K hbase hfr base
  refine awp_region_k (fun _ => false) (by rw [hB]; rfl) fun K hK base hbase hfr => tr_run ?_
  simp (disch := omega) only [go_sem, ↓reduceIte, za, zb, zc, zd, ze, zf, zg, zh, zi, zj, zk, zl, zm, zn, zo, dec_t, dec_f, ltI, leI, leN, le63, le40, le0, wrap64_id, wrapu64_id, wrap8_id]
  refine tr_pc (by rfl) (by simp only [go_sem, ↓reduceIte, za, zb, zc, zd, ze, zf, zg, zh, zi, zj, zk, zl, zm, zn, zo] <;> rfl) (c95 m) ?_
  simp (disch := omega) only [go_sem, ↓reduceIte, za, zb, zc, zd, ze, zf, zg, zh, zi, zj, zk, zl, zm, zn, zo, dec_t, dec_f, ltI, leI, leN, le63, le40, le0, wrap64_id, wrapu64_id, wrap8_id]
  refine tr_nil (hK _ _ _ ?_)
  clear hK K hbase hfr base
  refine awp_seq ?_
  refine awp_region_k (fun _ => false) (by rw [hB]; rfl) fun K hK base hbase hfr => tr_run ?_
  simp (disch := omega) only [go_sem, ↓reduceIte, za, zb, zc, zd, ze, zf, zg, zh, zi, zj, zk, zl, zm, zn, zo, dec_t, dec_f, ltI, leI, leN, le63, le40, le0, wrap64_id, wrapu64_id, wrap8_id]
  refine tr_nil (hK _ _ _ ?_)
  clear hK K hbase hfr base
  refine awp_cond (rfl) (fun h1 => ?_) (fun h1 => ?_)
  · try simp only [yb, yc, yd, ye, yf, yg, yh, yi, yj, yk, yl, ym, yn, yo] at h1
    refine awp_region_k (fun _ => false) (by rw [hB]; rfl) fun K hK base hbase hfr => tr_run ?_
    simp (disch := omega) only [go_sem, ↓reduceIte, za, zb, zc, zd, ze, zf, zg, zh, zi, zj, zk, zl, zm, zn, zo, dec_t, dec_f, ltI, leI, leN, le63, le40, le0, wrap64_id, wrapu64_id, wrap8_id]
    refine tr_nil (hK _ _ _ ?_)
    clear hK K hbase hfr base
    refine awp_ret ?_
    refine then_r ?_
    refine ⟨_, rfl, ?_, fun _ _ h => h, fun _ h => by first | exact h | exact List.mem_cons_of_mem _ h⟩
    rw [show bPut b m = (bag0, 1) by unfold bPut; rw [if_pos (by simpa using h1)]]; exact (.tuple (.cons (.agg (.cons (.no _ _) (.cons (.no _ _) (.cons (.no _ _) .nil)))) (.cons (.one (.refl _)) .nil)))
  · try simp only [yb, yc, yd, ye, yf, yg, yh, yi, yj, yk, yl, ym, yn, yo] at h1
    refine awp_skip ?_
    refine then_n ?_
    refine awp_region_k (fun _ => false) (by rw [hB]; rfl) fun K hK base hbase hfr => tr_run ?_
    simp (disch := omega) only [go_sem, ↓reduceIte, za, zb, zc, zd, ze, zf, zg, zh, zi, zj, zk, zl, zm, zn, zo, dec_t, dec_f, ltI, leI, leN, le63, le40, le0, wrap64_id, wrapu64_id, wrap8_id]
    refine tr_pc (by rfl) (by simp only [go_sem, ↓reduceIte, za, zb, zc, zd, ze, zf, zg, zh, zi, zj, zk, zl, zm, zn, zo] <;> rfl) (c96 b.ctx t1 t2 m.d) ?_
    simp (disch := omega) only [go_sem, ↓reduceIte, za, zb, zc, zd, ze, zf, zg, zh, zi, zj, zk, zl, zm, zn, zo, dec_t, dec_f, ltI, leI, leN, le63, le40, le0, wrap64_id, wrapu64_id, wrap8_id]
    refine tr_nil (hK _ _ _ ?_)
    clear hK K hbase hfr base
    refine awp_seq ?_
    refine awp_region_k (fun _ => false) (by rw [hB]; rfl) fun K hK base hbase hfr => tr_run ?_
    simp (disch := omega) only [go_sem, ↓reduceIte, za, zb, zc, zd, ze, zf, zg, zh, zi, zj, zk, zl, zm, zn, zo, dec_t, dec_f, ltI, leI, leN, le63, le40, le0, wrap64_id, wrapu64_id, wrap8_id]
    refine tr_nil (hK _ _ _ ?_)
    clear hK K hbase hfr base
    refine awp_cond (rfl) (fun h2 => ?_) (fun h2 => ?_)
    · try simp only [yb, yc, yd, ye, yf, yg, yh, yi, yj, yk, yl, ym, yn, yo] at h2
      refine awp_region_k (fun _ => false) (by rw [hB]; rfl) fun K hK base hbase hfr => tr_run ?_
      simp (disch := omega) only [go_sem, ↓reduceIte, za, zb, zc, zd, ze, zf, zg, zh, zi, zj, zk, zl, zm, zn, zo, dec_t, dec_f, ltI, leI, leN, le63, le40, le0, wrap64_id, wrapu64_id, wrap8_id]
      refine tr_nil (hK _ _ _ ?_)
      clear hK K hbase hfr base
      refine awp_ret ?_
      refine then_r ?_
      refine ⟨_, rfl, ?_, fun _ _ h => h, fun _ h => by first | exact h | exact List.mem_cons_of_mem _ h⟩
      rw [show bPut b m = (bag0, 13) by unfold bPut; rw [if_neg (by simpa using h1), if_pos h2]]; exact (.tuple (.cons (.agg (.cons (.no _ _) (.cons (.no _ _) (.cons (.no _ _) .nil)))) (.cons (.one (.refl _)) .nil)))
    · try simp only [yb, yc, yd, ye, yf, yg, yh, yi, yj, yk, yl, ym, yn, yo] at h2
      refine awp_skip ?_
      refine then_n ?_
      refine awp_region_k (fun _ => false) (by rw [hB]; rfl) fun K hK base hbase hfr => tr_run ?_
      simp (disch := omega) only [go_sem, ↓reduceIte, za, zb, zc, zd, ze, zf, zg, zh, zi, zj, zk, zl, zm, zn, zo, dec_t, dec_f, ltI, leI, leN, le63, le40, le0, wrap64_id, wrapu64_id, wrap8_id]
      refine tr_nil (hK _ _ _ ?_)
      clear hK K hbase hfr base
      refine awp_region_k (fun _ => false) (by rw [hB]; rfl) fun K hK base hbase hfr => tr_run ?_
      simp (disch := omega) only [go_sem, ↓reduceIte, za, zb, zc, zd, ze, zf, zg, zh, zi, zj, zk, zl, zm, zn, zo, ho, dec_t, dec_f, ltI, leI, leN, le63, le40, le0, wrap64_id, wrapu64_id, wrap8_id]
      refine tr_nil (hK _ _ _ ?_)
      clear hK K hfr
      have k8 : B.g.nt ≤ base + 3 := by omega
      generalize base + 3 = n8 at k8
      refine awp_region_k (fun _ => false) (by rw [hB]; rfl) fun K hK base hbase hfr => tr_run ?_
      simp (disch := omega) only [go_sem, ↓reduceIte, za, zb, zc, zd, ze, zf, zg, zh, zi, zj, zk, zl, zm, zn, zo, ho, dec_t, dec_f, ltI, leI, leN, le63, le40, le0, wrap64_id, wrapu64_id, wrap8_id]
      refine tr_nil (hK _ _ _ ?_)
      clear hK K hfr
      have k9 : B.g.nt ≤ base + 3 := by omega
      generalize base + 3 = n9 at k9
      refine awp_slot 8 rfl (vw_no (es' := (b.live ++ [m]).map msgV) (by simp [msgV])) ?_
      refine awp_drawn_k (fun f => f == 97 || f == 98) (fun _ => false) (by kernel_rfl) (by decide) (by rw [hB]; rfl) fun K hK base hbase hfr => trd_run ?_
      simp (disch := omega) only [go_sem, ↓reduceIte, za, zb, zc, zd, ze, zf, zg, zh, zi, zj, zk, zl, zm, zn, zo, dec_t, dec_f, ltI, leI, leN, le63, le40, le0, wrap64_id, wrapu64_id, wrap8_id]
      refine trd_pc (by kernel_rfl) (by rfl) (by simp only [go_sem, ↓reduceIte, za, zb, zc, zd, ze, zf, zg, zh, zi, zj, zk, zl, zm, zn, zo] <;> rfl) (c97 (b.live ++ [m]) .no (by simp only [List.length_append, List.length_cons, List.length_nil]; omega)) ?_
      simp (disch := omega) only [go_sem, ↓reduceIte, za, zb, zc, zd, ze, zf, zg, zh, zi, zj, zk, zl, zm, zn, zo, dec_t, dec_f, ltI, leI, leN, le63, le40, le0, wrap64_id, wrapu64_id, wrap8_id]
      refine trd_pc (by kernel_rfl) (by rfl) (by simp only [go_sem, ↓reduceIte, za, zb, zc, zd, ze, zf, zg, zh, zi, zj, zk, zl, zm, zn, zo] <;> rfl) (c98 b.ctx t1 t2 .full [m.d] hc (by simp)) ?_
      simp (disch := omega) only [go_sem, ↓reduceIte, za, zb, zc, zd, ze, zf, zg, zh, zi, zj, zk, zl, zm, zn, zo, dec_t, dec_f, ltI, leI, leN, le63, le40, le0, wrap64_id, wrapu64_id, wrap8_id]
      refine trd_nil (hK _ _ _ ?_)
      clear hK K hbase hfr base
      refine awp_ret ?_
      refine ⟨_, rfl, ?_, fun _ _ h => h, fun _ h => by first | exact h | exact List.mem_cons_of_mem _ h⟩
      rw [show bPut b m = (⟨bSorted (b.live ++ [m]), cAdd b.ctx [m.d]⟩, 0) by unfold bPut; rw [if_neg (by simpa using h1), if_neg (by simpa using h2)]]; exact (.tuple (.cons (.agg (.cons (.no _ _) (.cons (.no _ _) (.cons (.no _ _) .nil)))) (.cons (.one (.refl _)) .nil)))
end Go.Am
namespace Go.Am
open Go
open Nat renaming reduceEqDiff → za, reduceAdd → zb, reduceMul → zc, reducePow → zd, reduceLeDiff → ze, reduceSub → zf, reduceBEq → zg, reduceBNe → zh, reduceDiv → zi, reduceMod → zj
open Int renaming reduceLT → zk, reduceLE → zl, reduceEq → zm, reduceNe → zn, reduceToNat → zo
def bNot (l : List Msg) (d : Int × Int) : List Msg := l.filter fun m => !sameDot m.d d
def bRemove (b : Bag) (d : Int × Int) : Bag × Int := if dCheck d = false then (bag0, 1) else (⟨bNot b.live d, cAdd b.ctx [d]⟩, 0)
theorem c42 (b : Bag) (t0 t1 t2 : Tag) (d : Int × Int) (hc : Cok b.ctx) (hl : b.live.length ≤ 1000000) : PCalls Go.Proofs.Tryz.prog 42 [bagV b t0 t1 t2, dot d] (.tuple [bagV (bRemove b d).1 .no .no .no, .int .i64 (bRemove b d).2]) := by
  refine pcalls_of_awp Go.Proofs.Tryz.func42 rfl (by decide) (Nat.le_of_ble_eq_true rfl) ?_
  intro B σ hB ho hob
  refine awp_region_k (fun _ => false) (by rw [hB]; rfl) fun K hK base hbase hfr => tr_run ?_
  simp (disch := omega) only [go_sem, ↓reduceIte, za, zb, zc, zd, ze, zf, zg, zh, zi, zj, zk, zl, zm, zn, zo, dec_t, dec_f, ltI, leI, leN, le63, le40, le0, wrap64_id, wrapu64_id, wrap8_id]
  refine tr_nil (hK _ _ _ ?_)
  clear hK K hbase hfr base
  refine awp_region_k (fun _ => false) (by rw [hB]; rfl) fun K hK base hbase hfr => tr_run ?_
  simp (disch := omega) only [go_sem, ↓reduceIte, za, zb, zc, zd, ze, zf, zg, zh, zi, zj, zk, zl, zm, zn, zo, dec_t, dec_f, ltI, leI, leN, le63, le40, le0, wrap64_id, wrapu64_id, wrap8_id]
  refine tr_pc (by rfl) (by simp only [go_sem, ↓reduceIte, za, zb, zc, zd, ze, zf, zg, zh, zi, zj, zk, zl, zm, zn, zo] <;> rfl) (c99 d) ?_
  simp (disch := omega) only [go_sem, ↓reduceIte, za, zb, zc, zd, ze, zf, zg, zh, zi, zj, zk, zl, zm, zn, zo, dec_t, dec_f, ltI, leI, leN, le63, le40, le0, wrap64_id, wrapu64_id, wrap8_id]
  refine tr_nil (hK _ _ _ ?_)
  clear hK K hbase hfr base
  refine awp_seq ?_
  refine awp_region_k (fun _ => false) (by rw [hB]; rfl) fun K hK base hbase hfr => tr_run ?_
  simp (disch := omega) only [go_sem, ↓reduceIte, za, zb, zc, zd, ze, zf, zg, zh, zi, zj, zk, zl, zm, zn, zo, dec_t, dec_f, ltI, leI, leN, le63, le40, le0, wrap64_id, wrapu64_id, wrap8_id]
  refine tr_nil (hK _ _ _ ?_)
  clear hK K hbase hfr base
  refine awp_cond (rfl) (fun h1 => ?_) (fun h1 => ?_)
  · try simp only [yb, yc, yd, ye, yf, yg, yh, yi, yj, yk, yl, ym, yn, yo] at h1
    refine awp_region_k (fun _ => false) (by rw [hB]; rfl) fun K hK base hbase hfr => tr_run ?_
    simp (disch := omega) only [go_sem, ↓reduceIte, za, zb, zc, zd, ze, zf, zg, zh, zi, zj, zk, zl, zm, zn, zo, dec_t, dec_f, ltI, leI, leN, le63, le40, le0, wrap64_id, wrapu64_id, wrap8_id]
    refine tr_nil (hK _ _ _ ?_)
    clear hK K hbase hfr base
    refine awp_ret ?_
    refine then_r ?_
    refine ⟨_, rfl, ?_, fun _ _ h => h, fun _ h => by first | exact h | exact List.mem_cons_of_mem _ h⟩
    rw [show bRemove b d = (bag0, 1) by unfold bRemove; rw [if_pos (by simpa using h1)]]; exact (.tuple (.cons (.agg (.cons (.no _ _) (.cons (.no _ _) (.cons (.no _ _) .nil)))) (.cons (.one (.refl _)) .nil)))
  · try simp only [yb, yc, yd, ye, yf, yg, yh, yi, yj, yk, yl, ym, yn, yo] at h1
    refine awp_skip ?_
    refine then_n ?_
    refine awp_region_k (fun _ => false) (by rw [hB]; rfl) fun K hK base hbase hfr => tr_run ?_
    simp (disch := omega) only [go_sem, ↓reduceIte, za, zb, zc, zd, ze, zf, zg, zh, zi, zj, zk, zl, zm, zn, zo, dec_t, dec_f, ltI, leI, leN, le63, le40, le0, wrap64_id, wrapu64_id, wrap8_id]
    refine tr_pc (by rfl) (by simp only [go_sem, ↓reduceIte, za, zb, zc, zd, ze, zf, zg, zh, zi, zj, zk, zl, zm, zn, zo] <;> rfl) (c98 b.ctx t1 t2 .full [d] hc (by simp)) ?_
    simp (disch := omega) only [go_sem, ↓reduceIte, za, zb, zc, zd, ze, zf, zg, zh, zi, zj, zk, zl, zm, zn, zo, dec_t, dec_f, ltI, leI, leN, le63, le40, le0, wrap64_id, wrapu64_id, wrap8_id]
    refine tr_nil (hK _ _ _ ?_)
    clear hK K hbase hfr base
    refine awp_seq ?_
    refine awp_region_k (fun _ => false) (by rw [hB]; rfl) fun K hK base hbase hfr => tr_run ?_
    simp (disch := omega) only [go_sem, ↓reduceIte, za, zb, zc, zd, ze, zf, zg, zh, zi, zj, zk, zl, zm, zn, zo, dec_t, dec_f, ltI, leI, leN, le63, le40, le0, wrap64_id, wrapu64_id, wrap8_id]
    refine tr_nil (hK _ _ _ ?_)
    clear hK K hbase hfr base
    refine awp_block ?_
    refine awp_void2 fun v hv _ => awp_boxw 7 (ds := [.list [] (.tok v), .list ((cAdd b.ctx [d]).base.map dot) .no, .list ((cAdd b.ctx [d]).cloud.map dot) .no]) rfl (.cons (.tok v) (.cons (.refl _) (.cons (.refl _) .nil))) ?_
    refine awp_loop_w (α := Nat × List Msg × Nat) (fun x => x.2.1 = bNot (b.live.take x.1) d ∧ x.1 ≤ b.live.length ∧ B.g.nt ≤ x.2.2) (fun x => [(2, .lref 2 0), (3, .lref 3 0), (4, .lref 4 0), (7, .lref 7 0), (8, .int .i64 x.1)]) (fun x => [(2, [.list (b.live.map msgV) t0, .list (b.ctx.base.map dot) t1, .list (b.ctx.cloud.map dot) t2]), (3, [.int .i64 d.1, .int .i64 d.2]), (4, [.list [] .full, .list [] .full, .list [] .full]), (7, [.list (x.2.1.map msgV) (.tok x.2.2), .list ((cAdd b.ctx [d]).base.map dot) .no, .list ((cAdd b.ctx [d]).cloud.map dot) .no])]) (fun x => { σ with live := x.2.2 :: σ.live }) (fun x => b.live.length - x.1) (0, [], v) ?_ ?_ ?_ (Sh.sub_refl _) ?_
    · exact ⟨rfl, Nat.zero_le _, hv⟩
    · exact Env.subW_one rfl <| Env.subW_one rfl <| Env.subW_one rfl <| Env.subW_one rfl <| Env.subW_one rfl <| Env.subW_nil _
    · exact Boxes.subW_one rfl <| Boxes.subW_one rfl <| Boxes.subW_one rfl <| Boxes.subW_one rfl <| Boxes.subW_nil _
    rintro ⟨i, out, t⟩ ⟨h0, hi0, ht⟩
    try dsimp only at h0 hi0 ht
    have hol : out.length ≤ i := by rw [h0]; exact Nat.le_trans (List.length_filter_le _ _) (by simp; omega)
    refine awp_seq ?_
    refine awp_region_k (fun _ => false) (by rw [hB]; rfl) fun K hK base hbase hfr => tr_run ?_
    simp (disch := omega) only [go_sem, ↓reduceIte, za, zb, zc, zd, ze, zf, zg, zh, zi, zj, zk, zl, zm, zn, zo, dec_t, dec_f, ltI, leI, leN, le63, le40, le0, wrap64_id, wrapu64_id, wrap8_id]
    refine tr_nil (hK _ _ _ ?_)
    clear hK K hbase hfr base
    refine awp_len 22 rfl fun hlen => ?_
    simp only [List.length_map] at hlen
    refine awp_cond (rfl) (fun h2 => ?_) (fun h2 => ?_)
    · try simp only [yb, yc, yd, ye, yf, yg, yh, yi, yj, yk, yl, ym, yn, yo] at h2
      obtain ⟨x, hx, hm, hi⟩ := get_of_lt h2
      refine awp_skip ?_
      refine then_n ?_
      refine awp_seq ?_
      refine awp_block ?_
      refine awp_drawn_k (fun _ => false) (fun _ => false) (by kernel_rfl) (by decide) (by rw [hB]; rfl) fun K hK base hbase hfr => trd_run ?_
      simp (disch := omega) only [go_sem, ↓reduceIte, za, zb, zc, zd, ze, zf, zg, zh, zi, zj, zk, zl, zm, zn, zo, hx, dec_t, dec_f, ltI, leI, leN, le63, le40, le0, wrap64_id, wrapu64_id, wrap8_id]
      refine trd_nil (hK _ _ _ ?_)
      clear hK K hbase hfr base
      refine awp_cond (rfl) (fun h3 => ?_) (fun h3 => ?_)
      · try simp only [yb, yc, yd, ye, yf, yg, yh, yi, yj, yk, yl, ym, yn, yo] at h3
        have hsd : (x.d.1 == d.1 && x.d.2 == d.2) = false := by cases hh : (x.d.1 == d.1 && x.d.2 == d.2) <;> simp_all
        refine awp_drawn_e (fun _ => false) (fun _ => false) (QI_block (QI_then KI_awp (QI_loopw (QI_block (QI_then KI_awp QI_endsP))))) (by kernel_rfl) (by decide) (by rw [hB]; rfl) fun K hK base hbase hfr => trd_run ?_
        simp (disch := omega) only [go_sem, ↓reduceIte, za, zb, zc, zd, ze, zf, zg, zh, zi, zj, zk, zl, zm, zn, zo, hx, ho, dec_t, dec_f, ltI, leI, leN, le63, le40, le0, wrap64_id, wrapu64_id, wrap8_id]
        refine trd_nil (hK _ _ _ ?_)
        clear hK K hfr
        refine block_n ?_
        refine then_n ?_
        refine awp_region_e (fun _ => false) (by rw [hB]; rfl) fun K hK base hbase hfr => tr_run ?_
        simp (disch := omega) only [go_sem, ↓reduceIte, za, zb, zc, zd, ze, zf, zg, zh, zi, zj, zk, zl, zm, zn, zo, dec_t, dec_f, ltI, leI, leN, le63, le40, le0, wrap64_id, wrapu64_id, wrap8_id]
        refine tr_nil (hK _ _ _ ?_)
        clear hK K hbase hfr base
        refine then_n ⟨(i + 1, out ++ [x], base + 8), ?_, ?_, ?_, ?_, Sh.sub_refl _⟩
        · refine ⟨?_, hi, Nat.le_trans hbase (Nat.le_add_right _ _)⟩
          have e : [x].filter (fun m => !sameDot m.d d) = [x] := by rw [List.filter_cons, show sameDot x.d d = false from hsd]; rfl
          show out ++ [x] = bNot (b.live.take (i + 1)) d
          rw [h0, take_snoc hx, bNot, bNot, List.filter_append, e]
        · show b.live.length - (i + 1) < b.live.length - i; omega
        · exact Env.subW_one rfl <| Env.subW_one rfl <| Env.subW_one rfl <| Env.subW_one rfl <| Env.subW_one rfl <| Env.subW_nil _
        · exact Boxes.subW_one rfl <| Boxes.subW_one rfl <| Boxes.subW_one rfl <| Boxes.subW_cons rfl (.cons (vw0_tok (by simp [msgV]) rfl) (.cons (.refl _) (.cons (.refl _) .nil))) <| Boxes.subW_nil _
      · try simp only [yb, yc, yd, ye, yf, yg, yh, yi, yj, yk, yl, ym, yn, yo] at h3
        have hsd : (x.d.1 == d.1 && x.d.2 == d.2) = true := by simp_all
        refine awp_skip ?_
        refine block_n ?_
        refine then_n ?_
        refine awp_region_e (fun _ => false) (by rw [hB]; rfl) fun K hK base hbase hfr => tr_run ?_
        simp (disch := omega) only [go_sem, ↓reduceIte, za, zb, zc, zd, ze, zf, zg, zh, zi, zj, zk, zl, zm, zn, zo, dec_t, dec_f, ltI, leI, leN, le63, le40, le0, wrap64_id, wrapu64_id, wrap8_id]
        refine tr_nil (hK _ _ _ ?_)
        clear hK K hbase hfr base
        refine then_n ⟨(i + 1, out, t), ?_, ?_, ?_, ?_, Sh.sub_refl _⟩
        · refine ⟨?_, hi, ht⟩
          have e : [x].filter (fun m => !sameDot m.d d) = [] := by rw [List.filter_cons, show sameDot x.d d = true from hsd]; rfl
          show out = bNot (b.live.take (i + 1)) d
          rw [h0, take_snoc hx, bNot, bNot, List.filter_append, e, List.append_nil]
        · show b.live.length - (i + 1) < b.live.length - i; omega
        · exact Env.subW_one rfl <| Env.subW_one rfl <| Env.subW_one rfl <| Env.subW_one rfl <| Env.subW_one rfl <| Env.subW_nil _
        · exact Boxes.subW_one rfl <| Boxes.subW_one rfl <| Boxes.subW_one rfl <| Boxes.subW_cons rfl (.cons (vw0_tok (by simp [msgV]) rfl) (.cons (.refl _) (.cons (.refl _) .nil))) <| Boxes.subW_nil _
    · try simp only [yb, yc, yd, ye, yf, yg, yh, yi, yj, yk, yl, ym, yn, yo] at h2
      refine awp_exit ?_
      refine then_x ?_
      refine then_x ?_
      refine block_x ?_
      refine then_n ?_
      refine awp_region_k (fun _ => false) (by rw [hB]; rfl) fun K hK base hbase hfr => tr_run ?_
      simp (disch := omega) only [go_sem, ↓reduceIte, za, zb, zc, zd, ze, zf, zg, zh, zi, zj, zk, zl, zm, zn, zo, dec_t, dec_f, ltI, leI, leN, le63, le40, le0, wrap64_id, wrapu64_id, wrap8_id]
      refine tr_nil (hK _ _ _ ?_)
      clear hK K hbase hfr base
      refine awp_ret ?_
      refine ⟨_, rfl, ?_, fun _ _ h => h, fun _ h => by first | exact h | exact List.mem_cons_of_mem _ h⟩
      have : bNot b.live d = out := by rw [h0, List.take_of_length_le (by omega)]
      rw [show bRemove b d = (⟨out, cAdd b.ctx [d]⟩, 0) by unfold bRemove; rw [if_neg (by simpa using h1), this]]; exact (.tuple (.cons (.agg (.cons (.no _ _) (.cons (.no _ _) (.cons (.no _ _) .nil)))) (.cons (.one (.refl _)) .nil)))
end Go.Am
namespace Go.Am
open Go
open Nat renaming reduceEqDiff → za, reduceAdd → zb, reduceMul → zc, reducePow → zd, reduceLeDiff → ze, reduceSub → zf, reduceBEq → zg, reduceBNe → zh, reduceDiv → zi, reduceMod → zj
open Int renaming reduceLT → zk, reduceLE → zl, reduceEq → zm, reduceNe → zn, reduceToNat → zo
def jOne (b : Bag) (m : Msg) : List Msg := if (bGet b.live m.d).2 = true then [mBoth m (bGet b.live m.d).1] else if cHas b.ctx m.d = false then [m] else []
def jTwo (a : Bag) (m : Msg) : List Msg := if cHas a.ctx m.d = false then [m] else []
def bJoin (a b : Bag) : Bag := ⟨bSorted (a.live.flatMap (jOne b) ++ b.live.flatMap (jTwo a)), cJoin a.ctx b.ctx⟩
theorem jOne_len (b : Bag) (m : Msg) : (jOne b m).length ≤ 1 := by unfold jOne; split; · simp
                                                                   · split <;> simp
theorem jTwo_len (b : Bag) (m : Msg) : (jTwo b m).length ≤ 1 := by unfold jTwo; split <;> simp
theorem flatMap_one {α β : Type} (f : α → List β) (h : ∀ x, (f x).length ≤ 1) : ∀ l : List α, (l.flatMap f).length ≤ l.length
  | [] => Nat.le_refl _
  | a :: l => by
    have h1 := h a
    have h2 := flatMap_one f h l
    simp only [List.flatMap_cons, List.length_append, List.length_cons]
    omega
theorem c48 (a b : Bag) (s0 s1 s2 t0 t1 t2 : Tag) (ha : Cok a.ctx) (hb : Cok b.ctx) (hl1 : a.live.length ≤ 500000) (hl2 : b.live.length ≤ 500000) : PCalls Go.Proofs.Tryz.prog 48 [bagV a s0 s1 s2, bagV b t0 t1 t2] (bagV (bJoin a b) .no .no .no) := by
  have hf1 := flatMap_one (jOne b) (jOne_len b) a.live
  have hf2 := flatMap_one (jTwo a) (jTwo_len a) b.live
  refine pcalls_of_awp Go.Proofs.Tryz.func48 rfl (by decide) (Nat.le_of_ble_eq_true rfl) ?_
  intro B σ hB ho hob
  refine awp_region_k (fun _ => false) (by rw [hB]; rfl) fun K hK base hbase hfr => tr_run ?_
  simp (disch := omega) only [go_sem, ↓reduceIte, za, zb, zc, zd, ze, zf, zg, zh, zi, zj, zk, zl, zm, zn, zo, dec_t, dec_f, ltI, leI, leN, le63, le40, le0, wrap64_id, wrapu64_id, wrap8_id]
  refine tr_nil (hK _ _ _ ?_)
  clear hK K hbase hfr base
  refine awp_region_k (fun _ => false) (by rw [hB]; rfl) fun K hK base hbase hfr => tr_run ?_
  simp (disch := omega) only [go_sem, ↓reduceIte, za, zb, zc, zd, ze, zf, zg, zh, zi, zj, zk, zl, zm, zn, zo, dec_t, dec_f, ltI, leI, leN, le63, le40, le0, wrap64_id, wrapu64_id, wrap8_id]
  refine tr_nil (hK _ _ _ ?_)
  clear hK K hbase hfr base
  refine awp_seq ?_
  refine awp_region_k (fun _ => false) (by rw [hB]; rfl) fun K hK base hbase hfr => tr_run ?_
  simp (disch := omega) only [go_sem, ↓reduceIte, za, zb, zc, zd, ze, zf, zg, zh, zi, zj, zk, zl, zm, zn, zo, dec_t, dec_f, ltI, leI, leN, le63, le40, le0, wrap64_id, wrapu64_id, wrap8_id]
  refine tr_nil (hK _ _ _ ?_)
  clear hK K hbase hfr base
  refine awp_block ?_
  refine awp_tok 5 rfl fun v hv => ?_
  refine awp_loop_w (α := Nat × List Msg × Nat) (fun x => x.2.1 = (a.live.take x.1).flatMap (jOne b) ∧ x.1 ≤ a.live.length ∧ B.g.nt ≤ x.2.2) (fun x => [(2, .lref 2 0), (3, .lref 3 0), (4, .lref 4 0), (5, .list (x.2.1.map msgV) (.tok x.2.2)), (6, .int .i64 x.1)]) (fun x => [(2, [.list (a.live.map msgV) s0, .list (a.ctx.base.map dot) s1, .list (a.ctx.cloud.map dot) s2]), (3, [.list (b.live.map msgV) t0, .list (b.ctx.base.map dot) t1, .list (b.ctx.cloud.map dot) t2]), (4, [.list [] .full, .list [] .full, .list [] .full])]) (fun x => { σ with live := x.2.2 :: σ.live }) (fun x => a.live.length - x.1) (0, [], v) ?_ ?_ ?_ (Sh.sub_refl _) ?_
  · exact ⟨rfl, Nat.zero_le _, hv⟩
  · exact Env.subW_one rfl <| Env.subW_one rfl <| Env.subW_one rfl <| Env.subW_one rfl <| Env.subW_one rfl <| Env.subW_nil _
  · exact Boxes.subW_one rfl <| Boxes.subW_one rfl <| Boxes.subW_one rfl <| Boxes.subW_nil _
  rintro ⟨i, out, t⟩ ⟨h0, hi0, ht⟩
  try dsimp only at h0 hi0 ht
  have hol : out.length ≤ i := by rw [h0]; exact Nat.le_trans (flatMap_one _ (jOne_len b) _) (by simp; omega)
  refine awp_seq ?_
  refine awp_region_k (fun _ => false) (by rw [hB]; rfl) fun K hK base hbase hfr => tr_run ?_
  simp (disch := omega) only [go_sem, ↓reduceIte, za, zb, zc, zd, ze, zf, zg, zh, zi, zj, zk, zl, zm, zn, zo, dec_t, dec_f, ltI, leI, leN, le63, le40, le0, wrap64_id, wrapu64_id, wrap8_id]
  refine tr_nil (hK _ _ _ ?_)
  clear hK K hbase hfr base
  refine awp_len 16 rfl fun hlen => ?_
  simp only [List.length_map] at hlen
  refine awp_cond (rfl) (fun h1 => ?_) (fun h1 => ?_)
  · try simp only [yb, yc, yd, ye, yf, yg, yh, yi, yj, yk, yl, ym, yn, yo] at h1
    obtain ⟨x, hx, hm, hi⟩ := get_of_lt h1
    refine awp_skip ?_
    refine then_n ?_
    refine awp_seq ?_
    refine awp_block ?_
    refine awp_region_k (fun _ => false) (by rw [hB]; rfl) fun K hK base hbase hfr => tr_run ?_
    simp (disch := omega) only [go_sem, ↓reduceIte, za, zb, zc, zd, ze, zf, zg, zh, zi, zj, zk, zl, zm, zn, zo, hx, dec_t, dec_f, ltI, leI, leN, le63, le40, le0, wrap64_id, wrapu64_id, wrap8_id]
    refine tr_nil (hK _ _ _ ?_)
    clear hK K hbase hfr base
    refine awp_region_k (fun _ => false) (by rw [hB]; rfl) fun K hK base hbase hfr => tr_run ?_
    simp (disch := omega) only [go_sem, ↓reduceIte, za, zb, zc, zd, ze, zf, zg, zh, zi, zj, zk, zl, zm, zn, zo, dec_t, dec_f, ltI, leI, leN, le63, le40, le0, wrap64_id, wrapu64_id, wrap8_id]
    refine tr_pc (by rfl) (by simp only [go_sem, ↓reduceIte, za, zb, zc, zd, ze, zf, zg, zh, zi, zj, zk, zl, zm, zn, zo] <;> rfl) (c15 b t0 t1 t2 x.d) ?_
    simp (disch := omega) only [go_sem, ↓reduceIte, za, zb, zc, zd, ze, zf, zg, zh, zi, zj, zk, zl, zm, zn, zo, dec_t, dec_f, ltI, leI, leN, le63, le40, le0, wrap64_id, wrapu64_id, wrap8_id]
    refine tr_nil (hK _ _ _ ?_)
    clear hK K hbase hfr base
    refine awp_region_k (fun _ => false) (by rw [hB]; rfl) fun K hK base hbase hfr => tr_run ?_
    simp (disch := omega) only [go_sem, ↓reduceIte, za, zb, zc, zd, ze, zf, zg, zh, zi, zj, zk, zl, zm, zn, zo, dec_t, dec_f, ltI, leI, leN, le63, le40, le0, wrap64_id, wrapu64_id, wrap8_id]
    refine tr_pc (by rfl) (by simp only [go_sem, ↓reduceIte, za, zb, zc, zd, ze, zf, zg, zh, zi, zj, zk, zl, zm, zn, zo] <;> rfl) (c96 b.ctx t1 t2 x.d) ?_
    simp (disch := omega) only [go_sem, ↓reduceIte, za, zb, zc, zd, ze, zf, zg, zh, zi, zj, zk, zl, zm, zn, zo, dec_t, dec_f, ltI, leI, leN, le63, le40, le0, wrap64_id, wrapu64_id, wrap8_id]
    refine tr_nil (hK _ _ _ ?_)
    clear hK K hbase hfr base
    refine awp_region_k (fun _ => false) (by rw [hB]; rfl) fun K hK base hbase hfr => tr_run ?_
    simp (disch := omega) only [go_sem, ↓reduceIte, za, zb, zc, zd, ze, zf, zg, zh, zi, zj, zk, zl, zm, zn, zo, dec_t, dec_f, ltI, leI, leN, le63, le40, le0, wrap64_id, wrapu64_id, wrap8_id]
    refine tr_nil (hK _ _ _ ?_)
    clear hK K hbase hfr base
    refine awp_cond (rfl) (fun h2 => ?_) (fun h2 => ?_)
    · try simp only [yb, yc, yd, ye, yf, yg, yh, yi, yj, yk, yl, ym, yn, yo] at h2
      refine awp_region_e (fun _ => false) (by rw [hB]; rfl) fun K hK base hbase hfr => tr_run ?_
      simp (disch := omega) only [go_sem, ↓reduceIte, za, zb, zc, zd, ze, zf, zg, zh, zi, zj, zk, zl, zm, zn, zo, ho, dec_t, dec_f, ltI, leI, leN, le63, le40, le0, wrap64_id, wrapu64_id, wrap8_id]
      refine tr_pc (by rfl) (by simp only [go_sem, ↓reduceIte, za, zb, zc, zd, ze, zf, zg, zh, zi, zj, zk, zl, zm, zn, zo, ho] <;> rfl) (c109 x (bGet b.live x.d).1) ?_
      simp (disch := omega) only [go_sem, ↓reduceIte, za, zb, zc, zd, ze, zf, zg, zh, zi, zj, zk, zl, zm, zn, zo, ho, dec_t, dec_f, ltI, leI, leN, le63, le40, le0, wrap64_id, wrapu64_id, wrap8_id]
      refine tr_nil (hK _ _ _ ?_)
      clear hK K hfr
      refine block_n ?_
      refine then_n ?_
      refine awp_region_e (fun _ => false) (by rw [hB]; rfl) fun K hK base hbase hfr => tr_run ?_
      simp (disch := omega) only [go_sem, ↓reduceIte, za, zb, zc, zd, ze, zf, zg, zh, zi, zj, zk, zl, zm, zn, zo, dec_t, dec_f, ltI, leI, leN, le63, le40, le0, wrap64_id, wrapu64_id, wrap8_id]
      refine tr_nil (hK _ _ _ ?_)
      clear hK K hbase hfr base
      refine then_n ⟨(i + 1, out ++ [mBoth x (bGet b.live x.d).1], base + 5), ?_, ?_, ?_, ?_, Sh.sub_refl _⟩
      · refine ⟨?_, hi, Nat.le_trans hbase (Nat.le_add_right _ _)⟩
        show out ++ [mBoth x (bGet b.live x.d).1] = (a.live.take (i + 1)).flatMap (jOne b)
        rw [h0, take_snoc hx, flatMap_snoc, show jOne b x = [mBoth x (bGet b.live x.d).1] by unfold jOne; rw [if_pos (by assumption)]]
      · show a.live.length - (i + 1) < a.live.length - i; omega
      · exact Env.subW_one rfl <| Env.subW_one rfl <| Env.subW_one rfl <| Env.subW_one (by first | rfl | (rw [map_snoc]; rfl)) <| Env.subW_one rfl <| Env.subW_nil _
      · exact Boxes.subW_one rfl <| Boxes.subW_one rfl <| Boxes.subW_one rfl <| Boxes.subW_nil _
    · try simp only [yb, yc, yd, ye, yf, yg, yh, yi, yj, yk, yl, ym, yn, yo] at h2
      refine awp_region_k (fun _ => false) (by rw [hB]; rfl) fun K hK base hbase hfr => tr_run ?_
      simp (disch := omega) only [go_sem, ↓reduceIte, za, zb, zc, zd, ze, zf, zg, zh, zi, zj, zk, zl, zm, zn, zo, dec_t, dec_f, ltI, leI, leN, le63, le40, le0, wrap64_id, wrapu64_id, wrap8_id]
      refine tr_nil (hK _ _ _ ?_)
      clear hK K hbase hfr base
      refine awp_cond (rfl) (fun h3 => ?_) (fun h3 => ?_)
      · try simp only [yb, yc, yd, ye, yf, yg, yh, yi, yj, yk, yl, ym, yn, yo] at h3
        refine awp_region_e (fun _ => false) (by rw [hB]; rfl) fun K hK base hbase hfr => tr_run ?_
        simp (disch := omega) only [go_sem, ↓reduceIte, za, zb, zc, zd, ze, zf, zg, zh, zi, zj, zk, zl, zm, zn, zo, ho, dec_t, dec_f, ltI, leI, leN, le63, le40, le0, wrap64_id, wrapu64_id, wrap8_id]
        refine tr_nil (hK _ _ _ ?_)
        clear hK K hfr
        refine block_n ?_
        refine then_n ?_
        refine awp_region_e (fun _ => false) (by rw [hB]; rfl) fun K hK base hbase hfr => tr_run ?_
        simp (disch := omega) only [go_sem, ↓reduceIte, za, zb, zc, zd, ze, zf, zg, zh, zi, zj, zk, zl, zm, zn, zo, dec_t, dec_f, ltI, leI, leN, le63, le40, le0, wrap64_id, wrapu64_id, wrap8_id]
        refine tr_nil (hK _ _ _ ?_)
        clear hK K hbase hfr base
        refine then_n ⟨(i + 1, out ++ [x], base + 3), ?_, ?_, ?_, ?_, Sh.sub_refl _⟩
        · refine ⟨?_, hi, Nat.le_trans hbase (Nat.le_add_right _ _)⟩
          show out ++ [x] = (a.live.take (i + 1)).flatMap (jOne b)
          rw [h0, take_snoc hx, flatMap_snoc, show jOne b x = [x] by unfold jOne; rw [if_neg (by rw [h2]; decide), if_pos (by simpa using h3)]]
        · show a.live.length - (i + 1) < a.live.length - i; omega
        · exact Env.subW_one rfl <| Env.subW_one rfl <| Env.subW_one rfl <| Env.subW_one (by first | rfl | (rw [map_snoc]; rfl)) <| Env.subW_one rfl <| Env.subW_nil _
        · exact Boxes.subW_one rfl <| Boxes.subW_one rfl <| Boxes.subW_one rfl <| Boxes.subW_nil _
      · try simp only [yb, yc, yd, ye, yf, yg, yh, yi, yj, yk, yl, ym, yn, yo] at h3
        refine awp_skip ?_
        refine block_n ?_
        refine then_n ?_
        refine awp_region_e (fun _ => false) (by rw [hB]; rfl) fun K hK base hbase hfr => tr_run ?_
        simp (disch := omega) only [go_sem, ↓reduceIte, za, zb, zc, zd, ze, zf, zg, zh, zi, zj, zk, zl, zm, zn, zo, dec_t, dec_f, ltI, leI, leN, le63, le40, le0, wrap64_id, wrapu64_id, wrap8_id]
        refine tr_nil (hK _ _ _ ?_)
        clear hK K hbase hfr base
        refine then_n ⟨(i + 1, out, t), ?_, ?_, ?_, ?_, Sh.sub_refl _⟩
        · refine ⟨?_, hi, ht⟩
          show out = (a.live.take (i + 1)).flatMap (jOne b)
          rw [h0, take_snoc hx, flatMap_snoc, show jOne b x = [] by unfold jOne; rw [if_neg (by rw [h2]; decide), if_neg (by simp_all)]]; simp
        · show a.live.length - (i + 1) < a.live.length - i; omega
        · exact Env.subW_one rfl <| Env.subW_one rfl <| Env.subW_one rfl <| Env.subW_one (by first | rfl | (rw [map_snoc]; rfl)) <| Env.subW_one rfl <| Env.subW_nil _
        · exact Boxes.subW_one rfl <| Boxes.subW_one rfl <| Boxes.subW_one rfl <| Boxes.subW_nil _
  · try simp only [yb, yc, yd, ye, yf, yg, yh, yi, yj, yk, yl, ym, yn, yo] at h1
    refine awp_exit ?_
    refine then_x ?_
    refine then_x ?_
    refine block_x ?_
    refine then_n ?_
    refine awp_seq ?_
    refine awp_region_k (fun _ => false) (by rw [hB]; rfl) fun K hK base hbase hfr => tr_run ?_
    simp (disch := omega) only [go_sem, ↓reduceIte, za, zb, zc, zd, ze, zf, zg, zh, zi, zj, zk, zl, zm, zn, zo, dec_t, dec_f, ltI, leI, leN, le63, le40, le0, wrap64_id, wrapu64_id, wrap8_id]
    refine tr_nil (hK _ _ _ ?_)
    clear hK K hbase hfr base
    refine awp_block ?_
    refine awp_loop_w (α := Nat × List Msg × Nat) (fun x => x.2.1 = a.live.flatMap (jOne b) ++ (b.live.take x.1).flatMap (jTwo a) ∧ x.1 ≤ b.live.length ∧ B.g.nt ≤ x.2.2) (fun x => [(2, .lref 2 0), (3, .lref 3 0), (4, .lref 4 0), (5, .list (x.2.1.map msgV) (.tok x.2.2)), (11, .int .i64 x.1)]) (fun x => [(2, [.list (a.live.map msgV) s0, .list (a.ctx.base.map dot) s1, .list (a.ctx.cloud.map dot) s2]), (3, [.list (b.live.map msgV) t0, .list (b.ctx.base.map dot) t1, .list (b.ctx.cloud.map dot) t2]), (4, [.list [] .full, .list [] .full, .list [] .full])]) (fun x => { σ with live := x.2.2 :: σ.live }) (fun x => b.live.length - x.1) (0, out, t) ?_ ?_ ?_ (Sh.sub_refl _) ?_
    · exact ⟨by show out = _ ++ List.flatMap _ (List.take 0 _); rw [h0, List.take_of_length_le (by omega)]; simp, Nat.zero_le _, ht⟩
    · exact Env.subW_one rfl <| Env.subW_one rfl <| Env.subW_one rfl <| Env.subW_one rfl <| Env.subW_one rfl <| Env.subW_nil _
    · exact Boxes.subW_one rfl <| Boxes.subW_one rfl <| Boxes.subW_one rfl <| Boxes.subW_nil _
    clear h0 hi0 ht hol h1
    rintro ⟨i, out, t⟩ ⟨h0, hi0, ht⟩
    try dsimp only at h0 hi0 ht
    have hol : out.length ≤ a.live.length + i := by rw [h0, List.length_append]; exact Nat.add_le_add hf1 (Nat.le_trans (flatMap_one _ (jTwo_len a) _) (by simp; omega))
    refine awp_seq ?_
    refine awp_region_k (fun _ => false) (by rw [hB]; rfl) fun K hK base hbase hfr => tr_run ?_
    simp (disch := omega) only [go_sem, ↓reduceIte, za, zb, zc, zd, ze, zf, zg, zh, zi, zj, zk, zl, zm, zn, zo, dec_t, dec_f, ltI, leI, leN, le63, le40, le0, wrap64_id, wrapu64_id, wrap8_id]
    refine tr_nil (hK _ _ _ ?_)
    clear hK K hbase hfr base
    refine awp_len 53 rfl fun hlen => ?_
    simp only [List.length_map] at hlen
    refine awp_cond (rfl) (fun h4 => ?_) (fun h4 => ?_)
    · try simp only [yb, yc, yd, ye, yf, yg, yh, yi, yj, yk, yl, ym, yn, yo] at h4
      obtain ⟨x, hx, hm, hi⟩ := get_of_lt h4
      refine awp_skip ?_
      refine then_n ?_
      refine awp_seq ?_
      refine awp_block ?_
      refine awp_region_k (fun _ => false) (by rw [hB]; rfl) fun K hK base hbase hfr => tr_run ?_
      simp (disch := omega) only [go_sem, ↓reduceIte, za, zb, zc, zd, ze, zf, zg, zh, zi, zj, zk, zl, zm, zn, zo, hx, dec_t, dec_f, ltI, leI, leN, le63, le40, le0, wrap64_id, wrapu64_id, wrap8_id]
      refine tr_nil (hK _ _ _ ?_)
      clear hK K hbase hfr base
      refine awp_region_k (fun _ => false) (by rw [hB]; rfl) fun K hK base hbase hfr => tr_run ?_
      simp (disch := omega) only [go_sem, ↓reduceIte, za, zb, zc, zd, ze, zf, zg, zh, zi, zj, zk, zl, zm, zn, zo, dec_t, dec_f, ltI, leI, leN, le63, le40, le0, wrap64_id, wrapu64_id, wrap8_id]
      refine tr_pc (by rfl) (by simp only [go_sem, ↓reduceIte, za, zb, zc, zd, ze, zf, zg, zh, zi, zj, zk, zl, zm, zn, zo] <;> rfl) (c96 a.ctx s1 s2 x.d) ?_
      simp (disch := omega) only [go_sem, ↓reduceIte, za, zb, zc, zd, ze, zf, zg, zh, zi, zj, zk, zl, zm, zn, zo, dec_t, dec_f, ltI, leI, leN, le63, le40, le0, wrap64_id, wrapu64_id, wrap8_id]
      refine tr_nil (hK _ _ _ ?_)
      clear hK K hbase hfr base
      refine awp_region_k (fun _ => false) (by rw [hB]; rfl) fun K hK base hbase hfr => tr_run ?_
      simp (disch := omega) only [go_sem, ↓reduceIte, za, zb, zc, zd, ze, zf, zg, zh, zi, zj, zk, zl, zm, zn, zo, dec_t, dec_f, ltI, leI, leN, le63, le40, le0, wrap64_id, wrapu64_id, wrap8_id]
      refine tr_nil (hK _ _ _ ?_)
      clear hK K hbase hfr base
      refine awp_cond (rfl) (fun h5 => ?_) (fun h5 => ?_)
      · try simp only [yb, yc, yd, ye, yf, yg, yh, yi, yj, yk, yl, ym, yn, yo] at h5
        refine awp_region_e (fun _ => false) (by rw [hB]; rfl) fun K hK base hbase hfr => tr_run ?_
        simp (disch := omega) only [go_sem, ↓reduceIte, za, zb, zc, zd, ze, zf, zg, zh, zi, zj, zk, zl, zm, zn, zo, ho, dec_t, dec_f, ltI, leI, leN, le63, le40, le0, wrap64_id, wrapu64_id, wrap8_id]
        refine tr_nil (hK _ _ _ ?_)
        clear hK K hfr
        refine block_n ?_
        refine then_n ?_
        refine awp_region_e (fun _ => false) (by rw [hB]; rfl) fun K hK base hbase hfr => tr_run ?_
        simp (disch := omega) only [go_sem, ↓reduceIte, za, zb, zc, zd, ze, zf, zg, zh, zi, zj, zk, zl, zm, zn, zo, dec_t, dec_f, ltI, leI, leN, le63, le40, le0, wrap64_id, wrapu64_id, wrap8_id]
        refine tr_nil (hK _ _ _ ?_)
        clear hK K hbase hfr base
        refine then_n ⟨(i + 1, out ++ [x], base + 3), ?_, ?_, ?_, ?_, Sh.sub_refl _⟩
        · refine ⟨?_, hi, Nat.le_trans hbase (Nat.le_add_right _ _)⟩
          show out ++ [x] = a.live.flatMap (jOne b) ++ (b.live.take (i + 1)).flatMap (jTwo a)
          rw [h0, take_snoc hx, flatMap_snoc, show jTwo a x = [x] by unfold jTwo; rw [if_pos (by simp_all)]]; simp
        · show b.live.length - (i + 1) < b.live.length - i; omega
        · exact Env.subW_one rfl <| Env.subW_one rfl <| Env.subW_one rfl <| Env.subW_one (by first | rfl | (rw [map_snoc]; rfl)) <| Env.subW_one rfl <| Env.subW_nil _
        · exact Boxes.subW_one rfl <| Boxes.subW_one rfl <| Boxes.subW_one rfl <| Boxes.subW_nil _
      · try simp only [yb, yc, yd, ye, yf, yg, yh, yi, yj, yk, yl, ym, yn, yo] at h5
        refine awp_skip ?_
        refine block_n ?_
        refine then_n ?_
        refine awp_region_e (fun _ => false) (by rw [hB]; rfl) fun K hK base hbase hfr => tr_run ?_
        simp (disch := omega) only [go_sem, ↓reduceIte, za, zb, zc, zd, ze, zf, zg, zh, zi, zj, zk, zl, zm, zn, zo, dec_t, dec_f, ltI, leI, leN, le63, le40, le0, wrap64_id, wrapu64_id, wrap8_id]
        refine tr_nil (hK _ _ _ ?_)
        clear hK K hbase hfr base
        refine then_n ⟨(i + 1, out, t), ?_, ?_, ?_, ?_, Sh.sub_refl _⟩
        · refine ⟨?_, hi, ht⟩
          show out = a.live.flatMap (jOne b) ++ (b.live.take (i + 1)).flatMap (jTwo a)
          rw [h0, take_snoc hx, flatMap_snoc, show jTwo a x = [] by unfold jTwo; rw [if_neg (by simp_all)]]; simp
        · show b.live.length - (i + 1) < b.live.length - i; omega
        · exact Env.subW_one rfl <| Env.subW_one rfl <| Env.subW_one rfl <| Env.subW_one (by first | rfl | (rw [map_snoc]; rfl)) <| Env.subW_one rfl <| Env.subW_nil _
        · exact Boxes.subW_one rfl <| Boxes.subW_one rfl <| Boxes.subW_one rfl <| Boxes.subW_nil _
    · try simp only [yb, yc, yd, ye, yf, yg, yh, yi, yj, yk, yl, ym, yn, yo] at h4
      refine awp_exit ?_
      refine then_x ?_
      refine then_x ?_
      refine block_x ?_
      refine then_n ?_
      have hout : out = a.live.flatMap (jOne b) ++ b.live.flatMap (jTwo a) := by rw [h0, List.take_of_length_le (by omega)]
      refine awp_drawn_k (fun f => f == 44 || f == 97) (fun _ => false) (by kernel_rfl) (by decide) (by rw [hB]; rfl) fun K hK base hbase hfr => trd_run ?_
      simp (disch := omega) only [go_sem, ↓reduceIte, za, zb, zc, zd, ze, zf, zg, zh, zi, zj, zk, zl, zm, zn, zo, dec_t, dec_f, ltI, leI, leN, le63, le40, le0, wrap64_id, wrapu64_id, wrap8_id]
      refine trd_pc (by kernel_rfl) (by rfl) (by simp only [go_sem, ↓reduceIte, za, zb, zc, zd, ze, zf, zg, zh, zi, zj, zk, zl, zm, zn, zo] <;> rfl) (c97 out (.tok t) (by rw [hout, List.length_append]; omega)) ?_
      simp (disch := omega) only [go_sem, ↓reduceIte, za, zb, zc, zd, ze, zf, zg, zh, zi, zj, zk, zl, zm, zn, zo, dec_t, dec_f, ltI, leI, leN, le63, le40, le0, wrap64_id, wrapu64_id, wrap8_id]
      refine trd_pc (by kernel_rfl) (by rfl) (by simp only [go_sem, ↓reduceIte, za, zb, zc, zd, ze, zf, zg, zh, zi, zj, zk, zl, zm, zn, zo] <;> rfl) (c44 a.ctx b.ctx s1 s2 t1 t2 ha hb) ?_
      simp (disch := omega) only [go_sem, ↓reduceIte, za, zb, zc, zd, ze, zf, zg, zh, zi, zj, zk, zl, zm, zn, zo, dec_t, dec_f, ltI, leI, leN, le63, le40, le0, wrap64_id, wrapu64_id, wrap8_id]
      refine trd_nil (hK _ _ _ ?_)
      clear hK K hbase hfr base
      refine awp_ret ?_
      refine ⟨_, rfl, ?_, fun _ _ h => h, fun _ h => List.mem_cons_of_mem _ h⟩
      rw [show bJoin a b = ⟨bSorted out, cJoin a.ctx b.ctx⟩ by rw [hout]; rfl]; exact VW.refl _
end Go.Am
