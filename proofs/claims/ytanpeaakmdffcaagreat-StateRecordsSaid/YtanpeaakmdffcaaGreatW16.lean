/- What functions of this program compute, a part: see the main text. No conditions. -/
import Derived.Test.YtanpeaakmdffcaaGreatW15
set_option linter.all false
set_option maxRecDepth 100000
namespace Go.Am
open Go
open Nat renaming reduceEqDiff → za, reduceAdd → zb, reduceMul → zc, reducePow → zd, reduceLeDiff → ze, reduceSub → zf, reduceBEq → zg, reduceBNe → zh, reduceDiv → zi, reduceMod → zj
open Int renaming reduceLT → zk, reduceLE → zl, reduceEq → zm, reduceNe → zn, reduceToNat → zo
structure Cok (c : Ctx) : Prop where
  base : ∀ d ∈ c.base, 0 ≤ d.2 ∧ d.2 ≤ 4611686018427387904
  cloud : ∀ d ∈ c.cloud, 0 ≤ d.2 ∧ d.2 ≤ 4611686018427387904
  l1 : c.base.length ≤ 65536
  l2 : c.cloud.length ≤ 65536
theorem dBase_ok {l : List (Int × Int)} (h : ∀ d ∈ l, 0 ≤ d.2 ∧ d.2 ≤ 4611686018427387904) (n : Int) : 0 ≤ dBase l n ∧ dBase l n ≤ 4611686018427387904 := by
  induction l with
  | nil => exact ⟨Int.le_refl 0, (by decide : (0 : Int) ≤ 4611686018427387904)⟩
  | cons a l ih =>
    unfold dBase
    split
    · exact h a (by simp)
    · exact ih fun d hd => h d (by simp [hd])
theorem ofGo_length : ∀ (l out : List (Int × Int)) (up : Int), (ofGo up out l).2.length ≤ out.length + l.length
  | [], out, up => Nat.le_refl _
  | a :: l, out, up => by
    unfold ofGo
    split
    · have := ofGo_length l out (up + 1); simp only [List.length_cons]; omega
    · split
      · have := ofGo_length l (out ++ [a]) up
        simp only [List.length_append, List.length_cons, List.length_nil] at this ⊢; omega
      · have := ofGo_length l out up; simp only [List.length_cons]; omega
theorem cOf_length (n up : Int) (l : List (Int × Int)) : (cOf n up l).2.length ≤ l.length := by
  have h1 := ofGo_length (dOf (dSort l) n) [] up
  have h2 : (dOf (dSort l) n).length ≤ (dSort l).length := List.length_filter_le _ _
  have h3 := dSort_length l
  simp only [List.length_nil] at h1
  unfold cOf
  omega
theorem cNodes_length (c : Ctx) : (cNodes c).length ≤ c.base.length + c.cloud.length := by
  have := dSort_length (c.base.map zN ++ c.cloud.map zN)
  simp only [cNodes, List.length_map, List.length_append] at this ⊢
  exact this
theorem live3 {a b c d : Nat} {l : List Nat} : ∀ t, t ∈ a :: b :: l → t ∈ a :: b :: c :: d :: l := fun t h => by
  simp only [List.mem_cons] at h
  rcases h with h | h | h <;> simp [h]
theorem live_swap {a b : Nat} {l : List Nat} : ∀ t, t ∈ a :: b :: l → t ∈ b :: a :: l := fun t h => by
  simp only [List.mem_cons] at h
  rcases h with h | h | h <;> simp [h]
def joinUp (a b : Ctx) (n : Int) : Int := if dBase a.base n < dBase b.base n then dBase b.base n else dBase a.base n
def joinStep (a b : Ctx) (out : Ctx) (n : Int) : Ctx :=
  ⟨if 0 < (cOf n (joinUp a b n) (a.cloud ++ b.cloud)).1 then out.base ++ [(n, (cOf n (joinUp a b n) (a.cloud ++ b.cloud)).1)] else out.base, out.cloud ++ (cOf n (joinUp a b n) (a.cloud ++ b.cloud)).2⟩
def cJoin (a b : Ctx) : Ctx := (cNodes ⟨a.base ++ b.base, a.cloud ++ b.cloud⟩).foldl (joinStep a b) ⟨[], []⟩
theorem c44 (a b : Ctx) (t1 t2 t3 t4 : Tag) (ha : Cok a) (hb : Cok b) : PCalls Go.Proofs.Tryz.prog 44 [ctxV a t1 t2, ctxV b t3 t4] (ctxV (cJoin a b) .no .no) := by
  have hns := cNodes_length ⟨a.base ++ b.base, a.cloud ++ b.cloud⟩
  have a1 := ha.l1; have a2 := ha.l2; have b1 := hb.l1; have b2 := hb.l2
  have hcn := c101 ⟨a.base ++ b.base, a.cloud ++ b.cloud⟩ .no .no (by simp only [List.length_append]; omega) (by simp only [List.length_append]; omega)
  have hj : cJoin a b = (cNodes ⟨a.base ++ b.base, a.cloud ++ b.cloud⟩).foldl (joinStep a b) ⟨[], []⟩ := rfl
  simp only [List.length_append] at hns
  generalize cNodes ⟨a.base ++ b.base, a.cloud ++ b.cloud⟩ = ns at hns hcn hj
  have hcm : ∀ d ∈ a.cloud ++ b.cloud, d.2 ≤ 4611686018427387904 := fun d hd => by
    rcases List.mem_append.1 hd with h | h
    · exact (ha.cloud d h).2
    · exact (hb.cloud d h).2
  refine pcalls_of_awp Go.Proofs.Tryz.func44 rfl (by decide) (Nat.le_of_ble_eq_true rfl) ?_
  intro B σ hB ho hob
  refine awp_region_k (fun _ => false) (by rw [hB]; rfl) fun K hK base hbase hfr => tr_run ?_
  simp (disch := omega) only [go_sem, ↓reduceIte, za, zb, zc, zd, ze, zf, zg, zh, zi, zj, zk, zl, zm, zn, zo, dec_t, dec_f, ltI, leI, leN, le63, le40, le0, wrap64_id, wrapu64_id, wrap8_id]
  refine tr_nil (hK _ _ _ ?_)
  clear hK K hbase hfr base
  refine awp_region_k (fun _ => false) (by rw [hB]; rfl) fun K hK base hbase hfr => tr_run ?_
  simp (disch := omega) only [go_sem, ↓reduceIte, za, zb, zc, zd, ze, zf, zg, zh, zi, zj, zk, zl, zm, zn, zo, dec_t, dec_f, ltI, leI, leN, le63, le40, le0, wrap64_id, wrapu64_id, wrap8_id]
  refine tr_nil (hK _ _ _ ?_)
  clear hK K hbase hfr base
  refine awp_region_k (fun _ => false) (by rw [hB]; rfl) fun K hK base hbase hfr => tr_run ?_
  simp (disch := omega) only [go_sem, ↓reduceIte, za, zb, zc, zd, ze, zf, zg, zh, zi, zj, zk, zl, zm, zn, zo, ho, dec_t, dec_f, ltI, leI, leN, le63, le40, le0, wrap64_id, wrapu64_id, wrap8_id]
  refine tr_nil (hK _ _ _ ?_)
  clear hK K hfr
  have k2 : B.g.nt ≤ base + 4 := by omega
  generalize base + 4 = m2 at k2
  refine awp_region_k (fun _ => false) (by rw [hB]; rfl) fun K hK base hbase hfr => tr_run ?_
  simp (disch := omega) only [go_sem, ↓reduceIte, za, zb, zc, zd, ze, zf, zg, zh, zi, zj, zk, zl, zm, zn, zo, ho, dec_t, dec_f, ltI, leI, leN, le63, le40, le0, wrap64_id, wrapu64_id, wrap8_id]
  refine tr_nil (hK _ _ _ ?_)
  clear hK K hfr
  have k3 : B.g.nt ≤ base + 4 := by omega
  generalize base + 4 = m3 at k3
  refine awp_region_k (fun _ => false) (by rw [hB]; rfl) fun K hK base hbase hfr => tr_run ?_
  have g3 := hfr m3 (by simp)
  simp (disch := omega) only [go_sem, ↓reduceIte, za, zb, zc, zd, ze, zf, zg, zh, zi, zj, zk, zl, zm, zn, zo, ho, dec_t, dec_f, ltI, leI, leN, le63, le40, le0, wrap64_id, wrapu64_id, wrap8_id]
  refine tr_nil (hK _ _ _ ?_)
  clear hK K hfr
  have k4 : B.g.nt ≤ base + 4 := by omega
  have q4 : m3 ≠ base + 4 := by omega
  generalize base + 4 = m4 at k4 q4
  refine awp_region_k (fun _ => false) (by rw [hB]; rfl) fun K hK base hbase hfr => tr_run ?_
  simp (disch := omega) only [go_sem, ↓reduceIte, za, zb, zc, zd, ze, zf, zg, zh, zi, zj, zk, zl, zm, zn, zo, ho, spend_skip, dec_t, dec_f, ltI, leI, leN, le63, le40, le0, wrap64_id, wrapu64_id, wrap8_id]
  refine tr_nil (hK _ _ _ ?_)
  clear hK K hfr
  have k5 : B.g.nt ≤ base + 4 := by omega
  generalize base + 4 = m5 at k5
  refine awp_boxw 5 (ds := [.list ((a.base ++ b.base).map dot) .no, .list ((a.cloud ++ b.cloud).map dot) .no]) rfl (.cons (vw0_no (by simp)) (.cons (vw0_no (by simp)) .nil)) ?_
  refine awp_region_k (fun _ => false) (by rw [hB]; rfl) fun K hK base hbase hfr => tr_run ?_
  simp (disch := omega) only [go_sem, ↓reduceIte, za, zb, zc, zd, ze, zf, zg, zh, zi, zj, zk, zl, zm, zn, zo, dec_t, dec_f, ltI, leI, leN, le63, le40, le0, wrap64_id, wrapu64_id, wrap8_id]
  refine tr_nil (hK _ _ _ ?_)
  clear hK K hbase hfr base
  refine awp_region_k (fun _ => false) (by rw [hB]; rfl) fun K hK base hbase hfr => tr_run ?_
  simp (disch := omega) only [go_sem, ↓reduceIte, za, zb, zc, zd, ze, zf, zg, zh, zi, zj, zk, zl, zm, zn, zo, dec_t, dec_f, ltI, leI, leN, le63, le40, le0, wrap64_id, wrapu64_id, wrap8_id]
  refine tr_pc (by rfl) (by simp only [go_sem, ↓reduceIte, za, zb, zc, zd, ze, zf, zg, zh, zi, zj, zk, zl, zm, zn, zo] <;> rfl) hcn ?_
  simp (disch := omega) only [go_sem, ↓reduceIte, za, zb, zc, zd, ze, zf, zg, zh, zi, zj, zk, zl, zm, zn, zo, dec_t, dec_f, ltI, leI, leN, le63, le40, le0, wrap64_id, wrapu64_id, wrap8_id]
  refine tr_nil (hK _ _ _ ?_)
  clear hK K hbase hfr base
  refine awp_seq ?_
  refine awp_region_k (fun _ => false) (by rw [hB]; rfl) fun K hK base hbase hfr => tr_run ?_
  simp (disch := omega) only [go_sem, ↓reduceIte, za, zb, zc, zd, ze, zf, zg, zh, zi, zj, zk, zl, zm, zn, zo, dec_t, dec_f, ltI, leI, leN, le63, le40, le0, wrap64_id, wrapu64_id, wrap8_id]
  refine tr_nil (hK _ _ _ ?_)
  clear hK K hbase hfr base
  refine awp_block ?_
  refine awp_void2 fun v2 hv2 _ => awp_void2 fun v1 hv1 hv12 => awp_boxw 6 (ds := [.list [] (.tok v1), .list [] (.tok v2)]) rfl (.cons (.tok v1) (.cons (.tok v2) .nil)) ?_
  refine awp_loop_w (α := Nat × Ctx × Nat × Nat) (fun x => (ns.drop x.1).foldl (joinStep a b) x.2.1 = cJoin a b ∧ x.2.1.base.length ≤ x.1 ∧ x.2.1.cloud.length ≤ x.1 * 131072 ∧ x.1 ≤ ns.length ∧ B.g.nt ≤ x.2.2.1 ∧ B.g.nt ≤ x.2.2.2 ∧ x.2.2.1 ≠ x.2.2.2) (fun x => [(2, .lref 2 0), (3, .lref 3 0), (4, .lref 4 0), (5, .lref 5 0), (6, .lref 6 0), (7, .list (ns.map intV) .no), (8, .int .i64 x.1)]) (fun x => [(2, [.list (a.base.map dot) t1, .list (a.cloud.map dot) t2]), (3, [.list (b.base.map dot) t3, .list (b.cloud.map dot) t4]), (4, [.list [] .full, .list [] .full]), (5, [.list ((a.base ++ b.base).map dot) .no, .list ((a.cloud ++ b.cloud).map dot) .no]), (6, [.list (x.2.1.base.map dot) (.tok x.2.2.1), .list (x.2.1.cloud.map dot) (.tok x.2.2.2)])]) (fun x => { σ with live := x.2.2.1 :: x.2.2.2 :: σ.live }) (fun x => ns.length - x.1) (0, ⟨[], []⟩, v1, v2) ?_ ?_ ?_ ⟨fun _ _ h => h, live3⟩ ?_
  · exact ⟨hj.symm, Nat.le_refl _, by simp, Nat.zero_le _, hv1, hv2, fun e => hv12 (by rw [show v1 = v2 from e]; exact List.mem_cons_self ..)⟩
  · exact Env.subW_one rfl <| Env.subW_one rfl <| Env.subW_one rfl <| Env.subW_one rfl <| Env.subW_one rfl <| Env.subW_one rfl <| Env.subW_one rfl <| Env.subW_nil _
  · exact Boxes.subW_one rfl <| Boxes.subW_one rfl <| Boxes.subW_one rfl <| Boxes.subW_one rfl <| Boxes.subW_one rfl <| Boxes.subW_nil _
  rintro ⟨i, out, u1, u2⟩ ⟨h0, ho1, ho2, hi0, hu1, hu2, hu12⟩
  try dsimp only at h0 ho1 ho2 hi0 hu1 hu2 hu12
  refine awp_seq ?_
  refine awp_region_k (fun _ => false) (by rw [hB]; rfl) fun K hK base hbase hfr => tr_run ?_
  simp (disch := omega) only [go_sem, ↓reduceIte, za, zb, zc, zd, ze, zf, zg, zh, zi, zj, zk, zl, zm, zn, zo, dec_t, dec_f, ltI, leI, leN, le63, le40, le0, wrap64_id, wrapu64_id, wrap8_id]
  refine tr_nil (hK _ _ _ ?_)
  clear hK K hbase hfr base
  refine awp_cond (rfl) (fun h1 => ?_) (fun h1 => ?_)
  · try simp only [yb, yc, yd, ye, yf, yg, yh, yi, yj, yk, yl, ym, yn, yo] at h1
    obtain ⟨x, hx, hm, hi⟩ := get_of_lt h1
    refine awp_skip ?_
    refine then_n ?_
    refine awp_seq ?_
    refine awp_block ?_
    refine awp_drawn_k (fun f => f == 102) (fun _ => false) (by kernel_rfl) (by decide) (by rw [hB]; rfl) fun K hK base hbase hfr => trd_run ?_
    simp (disch := omega) only [go_sem, ↓reduceIte, za, zb, zc, zd, ze, zf, zg, zh, zi, zj, zk, zl, zm, zn, zo, hx, dec_t, dec_f, ltI, leI, leN, le63, le40, le0, wrap64_id, wrapu64_id, wrap8_id]
    refine trd_pc (by kernel_rfl) (by rfl) (by simp only [go_sem, ↓reduceIte, za, zb, zc, zd, ze, zf, zg, zh, zi, zj, zk, zl, zm, zn, zo, hx] <;> rfl) (c102 a t1 t2 x) ?_
    simp (disch := omega) only [go_sem, ↓reduceIte, za, zb, zc, zd, ze, zf, zg, zh, zi, zj, zk, zl, zm, zn, zo, hx, dec_t, dec_f, ltI, leI, leN, le63, le40, le0, wrap64_id, wrapu64_id, wrap8_id]
    refine trd_nil (hK _ _ _ ?_)
    clear hK K hbase hfr base
    refine awp_seq ?_
    refine awp_drawn_k (fun f => f == 102) (fun _ => false) (by kernel_rfl) (by decide) (by rw [hB]; rfl) fun K hK base hbase hfr => trd_run ?_
    simp (disch := omega) only [go_sem, ↓reduceIte, za, zb, zc, zd, ze, zf, zg, zh, zi, zj, zk, zl, zm, zn, zo, hx, dec_t, dec_f, ltI, leI, leN, le63, le40, le0, wrap64_id, wrapu64_id, wrap8_id]
    refine trd_pc (by kernel_rfl) (by rfl) (by simp only [go_sem, ↓reduceIte, za, zb, zc, zd, ze, zf, zg, zh, zi, zj, zk, zl, zm, zn, zo, hx] <;> rfl) (c102 b t3 t4 x) ?_
    simp (disch := omega) only [go_sem, ↓reduceIte, za, zb, zc, zd, ze, zf, zg, zh, zi, zj, zk, zl, zm, zn, zo, hx, dec_t, dec_f, ltI, leI, leN, le63, le40, le0, wrap64_id, wrapu64_id, wrap8_id]
    refine trd_nil (hK _ _ _ ?_)
    clear hK K hbase hfr base
    refine awp_cond (rfl) (fun h2 => ?_) (fun h2 => ?_)
    · try simp only [yb, yc, yd, ye, yf, yg, yh, yi, yj, yk, yl, ym, yn, yo] at h2
      have hju : joinUp a b x = dBase b.base x := if_pos h2
      have hcl := cOf_length x (dBase b.base x) (a.cloud ++ b.cloud)
      simp only [List.length_append] at hcl
      refine awp_drawn_e (fun f => f == 102) (fun _ => false) (QI_then KI_awp (QI_block (QI_then KI_awp (QI_loopw (QI_block (QI_then KI_awp QI_endsP)))))) (by kernel_rfl) (by decide) (by rw [hB]; rfl) fun K hK base hbase hfr => trd_run ?_
      simp (disch := omega) only [go_sem, ↓reduceIte, za, zb, zc, zd, ze, zf, zg, zh, zi, zj, zk, zl, zm, zn, zo, hx, dec_t, dec_f, ltI, leI, leN, le63, le40, le0, wrap64_id, wrapu64_id, wrap8_id]
      refine trd_pc (by kernel_rfl) (by rfl) (by simp only [go_sem, ↓reduceIte, za, zb, zc, zd, ze, zf, zg, zh, zi, zj, zk, zl, zm, zn, zo, hx] <;> rfl) (c102 b t3 t4 x) ?_
      simp (disch := omega) only [go_sem, ↓reduceIte, za, zb, zc, zd, ze, zf, zg, zh, zi, zj, zk, zl, zm, zn, zo, hx, dec_t, dec_f, ltI, leI, leN, le63, le40, le0, wrap64_id, wrapu64_id, wrap8_id]
      refine trd_nil (hK _ _ _ ?_)
      clear hK K hbase hfr base
      refine then_n ?_
      refine awp_drawn_k (fun f => f == 103) (fun _ => false) (by kernel_rfl) (by decide) (by rw [hB]; rfl) fun K hK base hbase hfr => trd_run ?_
      simp (disch := omega) only [go_sem, ↓reduceIte, za, zb, zc, zd, ze, zf, zg, zh, zi, zj, zk, zl, zm, zn, zo, hx, dec_t, dec_f, ltI, leI, leN, le63, le40, le0, wrap64_id, wrapu64_id, wrap8_id]
      refine trd_pc (by kernel_rfl) (by rfl) (by simp only [go_sem, ↓reduceIte, za, zb, zc, zd, ze, zf, zg, zh, zi, zj, zk, zl, zm, zn, zo, hx] <;> rfl) (c103 x (dBase b.base x) (a.cloud ++ b.cloud) .no (by simp only [List.length_append]; omega) hcm ⟨by have := (dBase_ok hb.base x).1; omega, (dBase_ok hb.base x).2⟩) ?_
      simp (disch := omega) only [go_sem, ↓reduceIte, za, zb, zc, zd, ze, zf, zg, zh, zi, zj, zk, zl, zm, zn, zo, hx, dec_t, dec_f, ltI, leI, leN, le63, le40, le0, wrap64_id, wrapu64_id, wrap8_id]
      refine trd_nil (hK _ _ _ ?_)
      clear hK K hbase hfr base
      refine awp_seq ?_
      refine awp_region_k (fun _ => false) (by rw [hB]; rfl) fun K hK base hbase hfr => tr_run ?_
      simp (disch := omega) only [go_sem, ↓reduceIte, za, zb, zc, zd, ze, zf, zg, zh, zi, zj, zk, zl, zm, zn, zo, dec_t, dec_f, ltI, leI, leN, le63, le40, le0, wrap64_id, wrapu64_id, wrap8_id]
      refine tr_nil (hK _ _ _ ?_)
      clear hK K hbase hfr base
      refine awp_cond (rfl) (fun h3 => ?_) (fun h3 => ?_)
      · try simp only [yb, yc, yd, ye, yf, yg, yh, yi, yj, yk, yl, ym, yn, yo] at h3
        have hstep : joinStep a b out x = ⟨out.base ++ [(x, (cOf x (dBase b.base x) (a.cloud ++ b.cloud)).1)], out.cloud ++ (cOf x (dBase b.base x) (a.cloud ++ b.cloud)).2⟩ := by unfold joinStep; rw [hju, if_pos (by assumption)]
        refine awp_drawn_e (fun _ => false) (fun _ => false) (QI_then KI_awp (QI_block (QI_then KI_awp (QI_loopw (QI_block (QI_then KI_awp QI_endsP)))))) (by kernel_rfl) (by decide) (by rw [hB]; rfl) fun K hK base hbase hfr => trd_run ?_
        have hf1 := hfr u1 (by simp)
        have hf2 := hfr u2 (by simp)
        simp (disch := omega) only [go_sem, ↓reduceIte, za, zb, zc, zd, ze, zf, zg, zh, zi, zj, zk, zl, zm, zn, zo, hx, ho, spend_skip, dec_t, dec_f, ltI, leI, leN, le63, le40, le0, wrap64_id, wrapu64_id, wrap8_id]
        refine trd_nil (hK _ _ _ ?_)
        clear hK K hfr
        have hn1 : B.g.nt ≤ base + 9 := by omega
        have hn2 : u2 < base + 9 := by omega
        generalize base + 9 = n1 at hn1 hn2
        refine then_n ?_
        refine awp_region_e (fun _ => false) (by rw [hB]; rfl) fun K hK base hbase hfr => tr_run ?_
        have hf3 := hfr _ (List.mem_cons_self ..)
        simp (disch := omega) only [go_sem, ↓reduceIte, za, zb, zc, zd, ze, zf, zg, zh, zi, zj, zk, zl, zm, zn, zo, ho, spend_skip, dec_t, dec_f, ltI, leI, leN, le63, le40, le0, wrap64_id, wrapu64_id, wrap8_id]
        refine tr_nil (hK _ _ _ ?_)
        clear hK K hfr
        refine block_n ?_
        refine then_n ?_
        refine awp_region_e (fun _ => false) (by rw [hB]; rfl) fun K hK base hbase hfr => tr_run ?_
        simp (disch := omega) only [go_sem, ↓reduceIte, za, zb, zc, zd, ze, zf, zg, zh, zi, zj, zk, zl, zm, zn, zo, dec_t, dec_f, ltI, leI, leN, le63, le40, le0, wrap64_id, wrapu64_id, wrap8_id]
        refine tr_nil (hK _ _ _ ?_)
        clear hK K hbase hfr base
        refine then_n ⟨(i + 1, ⟨out.base ++ [(x, (cOf x (dBase b.base x) (a.cloud ++ b.cloud)).1)], out.cloud ++ (cOf x (dBase b.base x) (a.cloud ++ b.cloud)).2⟩, n1, base + 3), ?_, ?_, ?_, ?_, ⟨fun _ _ h => h, live_swap⟩⟩
        · refine ⟨?_, ?_, ?_, hi, by assumption, Nat.le_trans hbase (Nat.le_add_right _ _), by show n1 ≠ base + 3; omega⟩
          · show List.foldl (joinStep a b) _ (ns.drop (i + 1)) = cJoin a b
            rw [← h0, drop_cons_of hx, List.foldl_cons, hstep]
          · show List.length _ ≤ i + 1
            simp only [List.length_append, List.length_cons, List.length_nil]; omega
          · show List.length _ ≤ (i + 1) * 131072
            simp only [List.length_append]; omega
        · show ns.length - (i + 1) < ns.length - i; omega
        · exact Env.subW_one rfl <| Env.subW_one rfl <| Env.subW_one rfl <| Env.subW_one rfl <| Env.subW_one rfl <| Env.subW_one rfl <| Env.subW_one rfl <| Env.subW_nil _
        · exact Boxes.subW_one rfl <| Boxes.subW_one rfl <| Boxes.subW_one rfl <| Boxes.subW_one rfl <| Boxes.subW_cons rfl (.cons (vw0_tok (by simp [dot]) rfl) (.cons (vw0_tok (by simp) rfl) .nil)) <| Boxes.subW_nil _
      · try simp only [yb, yc, yd, ye, yf, yg, yh, yi, yj, yk, yl, ym, yn, yo] at h3
        have hstep : joinStep a b out x = ⟨out.base, out.cloud ++ (cOf x (dBase b.base x) (a.cloud ++ b.cloud)).2⟩ := by unfold joinStep; rw [hju, if_neg (by omega)]
        refine awp_skip ?_
        refine then_n ?_
        refine awp_region_e (fun _ => false) (by rw [hB]; rfl) fun K hK base hbase hfr => tr_run ?_
        have hf3 := hfr _ (List.mem_cons_self ..)
        simp (disch := omega) only [go_sem, ↓reduceIte, za, zb, zc, zd, ze, zf, zg, zh, zi, zj, zk, zl, zm, zn, zo, ho, spend_skip, dec_t, dec_f, ltI, leI, leN, le63, le40, le0, wrap64_id, wrapu64_id, wrap8_id]
        refine tr_nil (hK _ _ _ ?_)
        clear hK K hfr
        refine block_n ?_
        refine then_n ?_
        refine awp_region_e (fun _ => false) (by rw [hB]; rfl) fun K hK base hbase hfr => tr_run ?_
        simp (disch := omega) only [go_sem, ↓reduceIte, za, zb, zc, zd, ze, zf, zg, zh, zi, zj, zk, zl, zm, zn, zo, dec_t, dec_f, ltI, leI, leN, le63, le40, le0, wrap64_id, wrapu64_id, wrap8_id]
        refine tr_nil (hK _ _ _ ?_)
        clear hK K hbase hfr base
        refine then_n ⟨(i + 1, ⟨out.base, out.cloud ++ (cOf x (dBase b.base x) (a.cloud ++ b.cloud)).2⟩, u1, base + 3), ?_, ?_, ?_, ?_, ⟨fun _ _ h => h, live_swap⟩⟩
        · refine ⟨?_, ?_, ?_, hi, by assumption, Nat.le_trans hbase (Nat.le_add_right _ _), by show u1 ≠ base + 3; omega⟩
          · show List.foldl (joinStep a b) _ (ns.drop (i + 1)) = cJoin a b
            rw [← h0, drop_cons_of hx, List.foldl_cons, hstep]
          · show List.length _ ≤ i + 1
            simp only [List.length_append, List.length_cons, List.length_nil]; omega
          · show List.length _ ≤ (i + 1) * 131072
            simp only [List.length_append]; omega
        · show ns.length - (i + 1) < ns.length - i; omega
        · exact Env.subW_one rfl <| Env.subW_one rfl <| Env.subW_one rfl <| Env.subW_one rfl <| Env.subW_one rfl <| Env.subW_one rfl <| Env.subW_one rfl <| Env.subW_nil _
        · exact Boxes.subW_one rfl <| Boxes.subW_one rfl <| Boxes.subW_one rfl <| Boxes.subW_one rfl <| Boxes.subW_cons rfl (.cons (vw0_tok (by simp [dot]) rfl) (.cons (vw0_tok (by simp) rfl) .nil)) <| Boxes.subW_nil _
    · try simp only [yb, yc, yd, ye, yf, yg, yh, yi, yj, yk, yl, ym, yn, yo] at h2
      have hju : joinUp a b x = dBase a.base x := if_neg (by omega)
      have hcl := cOf_length x (dBase a.base x) (a.cloud ++ b.cloud)
      simp only [List.length_append] at hcl
      refine awp_skip ?_
      refine then_n ?_
      refine awp_drawn_k (fun f => f == 103) (fun _ => false) (by kernel_rfl) (by decide) (by rw [hB]; rfl) fun K hK base hbase hfr => trd_run ?_
      simp (disch := omega) only [go_sem, ↓reduceIte, za, zb, zc, zd, ze, zf, zg, zh, zi, zj, zk, zl, zm, zn, zo, hx, dec_t, dec_f, ltI, leI, leN, le63, le40, le0, wrap64_id, wrapu64_id, wrap8_id]
      refine trd_pc (by kernel_rfl) (by rfl) (by simp only [go_sem, ↓reduceIte, za, zb, zc, zd, ze, zf, zg, zh, zi, zj, zk, zl, zm, zn, zo, hx] <;> rfl) (c103 x (dBase a.base x) (a.cloud ++ b.cloud) .no (by simp only [List.length_append]; omega) hcm ⟨by have := (dBase_ok ha.base x).1; omega, (dBase_ok ha.base x).2⟩) ?_
      simp (disch := omega) only [go_sem, ↓reduceIte, za, zb, zc, zd, ze, zf, zg, zh, zi, zj, zk, zl, zm, zn, zo, hx, dec_t, dec_f, ltI, leI, leN, le63, le40, le0, wrap64_id, wrapu64_id, wrap8_id]
      refine trd_nil (hK _ _ _ ?_)
      clear hK K hbase hfr base
      refine awp_seq ?_
      refine awp_region_k (fun _ => false) (by rw [hB]; rfl) fun K hK base hbase hfr => tr_run ?_
      simp (disch := omega) only [go_sem, ↓reduceIte, za, zb, zc, zd, ze, zf, zg, zh, zi, zj, zk, zl, zm, zn, zo, dec_t, dec_f, ltI, leI, leN, le63, le40, le0, wrap64_id, wrapu64_id, wrap8_id]
      refine tr_nil (hK _ _ _ ?_)
      clear hK K hbase hfr base
      refine awp_cond (rfl) (fun h4 => ?_) (fun h4 => ?_)
      · try simp only [yb, yc, yd, ye, yf, yg, yh, yi, yj, yk, yl, ym, yn, yo] at h4
        have hstep : joinStep a b out x = ⟨out.base ++ [(x, (cOf x (dBase a.base x) (a.cloud ++ b.cloud)).1)], out.cloud ++ (cOf x (dBase a.base x) (a.cloud ++ b.cloud)).2⟩ := by unfold joinStep; rw [hju, if_pos (by assumption)]
        refine awp_drawn_e (fun _ => false) (fun _ => false) (QI_then KI_awp (QI_block (QI_then KI_awp (QI_loopw (QI_block (QI_then KI_awp QI_endsP)))))) (by kernel_rfl) (by decide) (by rw [hB]; rfl) fun K hK base hbase hfr => trd_run ?_
        have hf1 := hfr u1 (by simp)
        have hf2 := hfr u2 (by simp)
        simp (disch := omega) only [go_sem, ↓reduceIte, za, zb, zc, zd, ze, zf, zg, zh, zi, zj, zk, zl, zm, zn, zo, hx, ho, spend_skip, dec_t, dec_f, ltI, leI, leN, le63, le40, le0, wrap64_id, wrapu64_id, wrap8_id]
        refine trd_nil (hK _ _ _ ?_)
        clear hK K hfr
        have hn1 : B.g.nt ≤ base + 9 := by omega
        have hn2 : u2 < base + 9 := by omega
        generalize base + 9 = n1 at hn1 hn2
        refine then_n ?_
        refine awp_region_e (fun _ => false) (by rw [hB]; rfl) fun K hK base hbase hfr => tr_run ?_
        have hf3 := hfr _ (List.mem_cons_self ..)
        simp (disch := omega) only [go_sem, ↓reduceIte, za, zb, zc, zd, ze, zf, zg, zh, zi, zj, zk, zl, zm, zn, zo, ho, spend_skip, dec_t, dec_f, ltI, leI, leN, le63, le40, le0, wrap64_id, wrapu64_id, wrap8_id]
        refine tr_nil (hK _ _ _ ?_)
        clear hK K hfr
        refine block_n ?_
        refine then_n ?_
        refine awp_region_e (fun _ => false) (by rw [hB]; rfl) fun K hK base hbase hfr => tr_run ?_
        simp (disch := omega) only [go_sem, ↓reduceIte, za, zb, zc, zd, ze, zf, zg, zh, zi, zj, zk, zl, zm, zn, zo, dec_t, dec_f, ltI, leI, leN, le63, le40, le0, wrap64_id, wrapu64_id, wrap8_id]
        refine tr_nil (hK _ _ _ ?_)
        clear hK K hbase hfr base
        refine then_n ⟨(i + 1, ⟨out.base ++ [(x, (cOf x (dBase a.base x) (a.cloud ++ b.cloud)).1)], out.cloud ++ (cOf x (dBase a.base x) (a.cloud ++ b.cloud)).2⟩, n1, base + 3), ?_, ?_, ?_, ?_, ⟨fun _ _ h => h, live_swap⟩⟩
        · refine ⟨?_, ?_, ?_, hi, by assumption, Nat.le_trans hbase (Nat.le_add_right _ _), by show n1 ≠ base + 3; omega⟩
          · show List.foldl (joinStep a b) _ (ns.drop (i + 1)) = cJoin a b
            rw [← h0, drop_cons_of hx, List.foldl_cons, hstep]
          · show List.length _ ≤ i + 1
            simp only [List.length_append, List.length_cons, List.length_nil]; omega
          · show List.length _ ≤ (i + 1) * 131072
            simp only [List.length_append]; omega
        · show ns.length - (i + 1) < ns.length - i; omega
        · exact Env.subW_one rfl <| Env.subW_one rfl <| Env.subW_one rfl <| Env.subW_one rfl <| Env.subW_one rfl <| Env.subW_one rfl <| Env.subW_one rfl <| Env.subW_nil _
        · exact Boxes.subW_one rfl <| Boxes.subW_one rfl <| Boxes.subW_one rfl <| Boxes.subW_one rfl <| Boxes.subW_cons rfl (.cons (vw0_tok (by simp [dot]) rfl) (.cons (vw0_tok (by simp) rfl) .nil)) <| Boxes.subW_nil _
      · try simp only [yb, yc, yd, ye, yf, yg, yh, yi, yj, yk, yl, ym, yn, yo] at h4
        have hstep : joinStep a b out x = ⟨out.base, out.cloud ++ (cOf x (dBase a.base x) (a.cloud ++ b.cloud)).2⟩ := by unfold joinStep; rw [hju, if_neg (by omega)]
        refine awp_skip ?_
        refine then_n ?_
        refine awp_region_e (fun _ => false) (by rw [hB]; rfl) fun K hK base hbase hfr => tr_run ?_
        have hf3 := hfr _ (List.mem_cons_self ..)
        simp (disch := omega) only [go_sem, ↓reduceIte, za, zb, zc, zd, ze, zf, zg, zh, zi, zj, zk, zl, zm, zn, zo, ho, spend_skip, dec_t, dec_f, ltI, leI, leN, le63, le40, le0, wrap64_id, wrapu64_id, wrap8_id]
        refine tr_nil (hK _ _ _ ?_)
        clear hK K hfr
        refine block_n ?_
        refine then_n ?_
        refine awp_region_e (fun _ => false) (by rw [hB]; rfl) fun K hK base hbase hfr => tr_run ?_
        simp (disch := omega) only [go_sem, ↓reduceIte, za, zb, zc, zd, ze, zf, zg, zh, zi, zj, zk, zl, zm, zn, zo, dec_t, dec_f, ltI, leI, leN, le63, le40, le0, wrap64_id, wrapu64_id, wrap8_id]
        refine tr_nil (hK _ _ _ ?_)
        clear hK K hbase hfr base
        refine then_n ⟨(i + 1, ⟨out.base, out.cloud ++ (cOf x (dBase a.base x) (a.cloud ++ b.cloud)).2⟩, u1, base + 3), ?_, ?_, ?_, ?_, ⟨fun _ _ h => h, live_swap⟩⟩
        · refine ⟨?_, ?_, ?_, hi, by assumption, Nat.le_trans hbase (Nat.le_add_right _ _), by show u1 ≠ base + 3; omega⟩
          · show List.foldl (joinStep a b) _ (ns.drop (i + 1)) = cJoin a b
            rw [← h0, drop_cons_of hx, List.foldl_cons, hstep]
          · show List.length _ ≤ i + 1
            simp only [List.length_append, List.length_cons, List.length_nil]; omega
          · show List.length _ ≤ (i + 1) * 131072
            simp only [List.length_append]; omega
        · show ns.length - (i + 1) < ns.length - i; omega
        · exact Env.subW_one rfl <| Env.subW_one rfl <| Env.subW_one rfl <| Env.subW_one rfl <| Env.subW_one rfl <| Env.subW_one rfl <| Env.subW_one rfl <| Env.subW_nil _
        · exact Boxes.subW_one rfl <| Boxes.subW_one rfl <| Boxes.subW_one rfl <| Boxes.subW_one rfl <| Boxes.subW_cons rfl (.cons (vw0_tok (by simp [dot]) rfl) (.cons (vw0_tok (by simp) rfl) .nil)) <| Boxes.subW_nil _
  · try simp only [yb, yc, yd, ye, yf, yg, yh, yi, yj, yk, yl, ym, yn, yo] at h1
    refine awp_exit ?_
    refine then_x ?_
    refine then_x ?_
    refine block_x ?_
    refine then_n ?_
    refine awp_region_k (fun _ => false) (by rw [hB]; rfl) fun K hK base hbase hfr => tr_run ?_
    simp (disch := omega) only [go_sem, ↓reduceIte, za, zb, zc, zd, ze, zf, zg, zh, zi, zj, zk, zl, zm, zn, zo, dec_t, dec_f, ltI, leI, leN, le63, le40, le0, wrap64_id, wrapu64_id, wrap8_id]
    refine tr_nil (hK _ _ _ ?_)
    clear hK K hbase hfr base
    refine awp_ret ?_
    refine ⟨_, rfl, ?_, fun _ _ h => h, fun _ h => by simp only [List.mem_cons]; simp [h]⟩
    have : cJoin a b = out := by rw [← h0, get_le h1]; rfl
    rw [this]; exact .one (.agg (.cons (.no _ _) (.cons (.no _ _) .nil)))
end Go.Am
namespace Go.Am
open Go
open Nat renaming reduceEqDiff → za, reduceAdd → zb, reduceMul → zc, reducePow → zd, reduceLeDiff → ze, reduceSub → zf, reduceBEq → zg, reduceBNe → zh, reduceDiv → zi, reduceMod → zj
open Int renaming reduceLT → zk, reduceLE → zl, reduceEq → zm, reduceNe → zn, reduceToNat → zo
def cAdd (c : Ctx) (l : List (Int × Int)) : Ctx := cJoin c ⟨[], dSort (l.filter dCheck)⟩
theorem dCheck_ok {d : Int × Int} (h : dCheck d = true) : 0 ≤ d.2 ∧ d.2 ≤ 4611686018427387904 := by
  simp only [dCheck, Bool.and_eq_true, decide_eq_true_eq] at h
  omega
theorem Cok_sorted {l : List (Int × Int)} (hl : l.length ≤ 65536) : Cok ⟨[], dSort (l.filter dCheck)⟩ where
  base d hd := by cases hd
  cloud d hd := dCheck_ok (List.mem_filter.1 (dSort_mem hd)).2
  l1 := Nat.zero_le _
  l2 := Nat.le_trans (dSort_length _) (Nat.le_trans (List.length_filter_le _ _) hl)
theorem c98 (c : Ctx) (t1 t2 tg : Tag) (l : List (Int × Int)) (hc : Cok c) (hl : l.length ≤ 65536) : PCalls Go.Proofs.Tryz.prog 98 [ctxV c t1 t2, dots l tg] (ctxV (cAdd c l) .no .no) := by
  refine pcalls_of_awp Go.Proofs.Tryz.func98 rfl (by decide) (Nat.le_of_ble_eq_true rfl) ?_
  intro B σ hB ho hob
  refine awp_region_k (fun _ => false) (by rw [hB]; rfl) fun K hK base hbase hfr => tr_run ?_
  simp (disch := omega) only [go_sem, ↓reduceIte, za, zb, zc, zd, ze, zf, zg, zh, zi, zj, zk, zl, zm, zn, zo, dec_t, dec_f, ltI, leI, leN, le63, le40, le0, wrap64_id, wrapu64_id, wrap8_id]
  refine tr_nil (hK _ _ _ ?_)
  clear hK K hbase hfr base
  refine awp_region_k (fun _ => false) (by rw [hB]; rfl) fun K hK base hbase hfr => tr_run ?_
  simp (disch := omega) only [go_sem, ↓reduceIte, za, zb, zc, zd, ze, zf, zg, zh, zi, zj, zk, zl, zm, zn, zo, dec_t, dec_f, ltI, leI, leN, le63, le40, le0, wrap64_id, wrapu64_id, wrap8_id]
  refine tr_nil (hK _ _ _ ?_)
  clear hK K hbase hfr base
  refine awp_seq ?_
  refine awp_region_k (fun _ => false) (by rw [hB]; rfl) fun K hK base hbase hfr => tr_run ?_
  simp (disch := omega) only [go_sem, ↓reduceIte, za, zb, zc, zd, ze, zf, zg, zh, zi, zj, zk, zl, zm, zn, zo, dec_t, dec_f, ltI, leI, leN, le63, le40, le0, wrap64_id, wrapu64_id, wrap8_id]
  refine tr_nil (hK _ _ _ ?_)
  clear hK K hbase hfr base
  refine awp_block ?_
  refine awp_void2 fun t0 ht0 _ => awp_boxw 5 (ds := [.list [] .full, .list [] (.tok t0)]) rfl (.cons (.refl _) (.cons (.tok t0) .nil)) ?_
  refine awp_loop_w (α := Nat × List (Int × Int) × Nat) (fun x => x.2.1 ++ (l.drop x.1).filter dCheck = l.filter dCheck ∧ x.2.1.length ≤ x.1 ∧ x.1 ≤ l.length ∧ B.g.nt ≤ x.2.2) (fun x => [(1, dots l tg), (2, .lref 2 0), (4, .lref 4 0), (5, .lref 5 0), (6, .int .i64 x.1)]) (fun x => [(2, [.list (c.base.map dot) t1, .list (c.cloud.map dot) t2]), (4, [.list [] .full, .list [] .full]), (5, [.list [] .full, .list (x.2.1.map dot) (.tok x.2.2)])]) (fun x => { σ with live := x.2.2 :: σ.live }) (fun x => l.length - x.1) (0, [], t0) ?_ ?_ ?_ (Sh.sub_refl _) ?_
  · exact ⟨rfl, Nat.le_refl _, Nat.zero_le _, ht0⟩
  · exact Env.subW_one rfl <| Env.subW_one rfl <| Env.subW_one rfl <| Env.subW_one rfl <| Env.subW_one rfl <| Env.subW_nil _
  · exact Boxes.subW_one rfl <| Boxes.subW_one rfl <| Boxes.subW_one rfl <| Boxes.subW_nil _
  rintro ⟨i, out, t⟩ ⟨h0, ho1, ho2, ht⟩
  try dsimp only at h0 ho1 ho2 ht
  refine awp_seq ?_
  refine awp_region_k (fun _ => false) (by rw [hB]; rfl) fun K hK base hbase hfr => tr_run ?_
  simp (disch := omega) only [go_sem, ↓reduceIte, za, zb, zc, zd, ze, zf, zg, zh, zi, zj, zk, zl, zm, zn, zo, dec_t, dec_f, ltI, leI, leN, le63, le40, le0, wrap64_id, wrapu64_id, wrap8_id]
  refine tr_nil (hK _ _ _ ?_)
  clear hK K hbase hfr base
  refine awp_cond (rfl) (fun h1 => ?_) (fun h1 => ?_)
  · try simp only [yb, yc, yd, ye, yf, yg, yh, yi, yj, yk, yl, ym, yn, yo] at h1
    obtain ⟨x, hx, hm, hi⟩ := get_of_lt h1
    refine awp_skip ?_
    refine then_n ?_
    refine awp_seq ?_
    refine awp_block ?_
    refine awp_region_k (fun _ => false) (by rw [hB]; rfl) fun K hK base hbase hfr => tr_run ?_
    simp (disch := omega) only [go_sem, ↓reduceIte, za, zb, zc, zd, ze, zf, zg, zh, zi, zj, zk, zl, zm, zn, zo, hx, dec_t, dec_f, ltI, leI, leN, le63, le40, le0, wrap64_id, wrapu64_id, wrap8_id]
    refine tr_pc (by rfl) (by simp only [go_sem, ↓reduceIte, za, zb, zc, zd, ze, zf, zg, zh, zi, zj, zk, zl, zm, zn, zo, hx] <;> rfl) (c99 x) ?_
    simp (disch := omega) only [go_sem, ↓reduceIte, za, zb, zc, zd, ze, zf, zg, zh, zi, zj, zk, zl, zm, zn, zo, hx, dec_t, dec_f, ltI, leI, leN, le63, le40, le0, wrap64_id, wrapu64_id, wrap8_id]
    refine tr_nil (hK _ _ _ ?_)
    clear hK K hbase hfr base
    refine awp_region_k (fun _ => false) (by rw [hB]; rfl) fun K hK base hbase hfr => tr_run ?_
    simp (disch := omega) only [go_sem, ↓reduceIte, za, zb, zc, zd, ze, zf, zg, zh, zi, zj, zk, zl, zm, zn, zo, dec_t, dec_f, ltI, leI, leN, le63, le40, le0, wrap64_id, wrapu64_id, wrap8_id]
    refine tr_nil (hK _ _ _ ?_)
    clear hK K hbase hfr base
    refine awp_cond (rfl) (fun h2 => ?_) (fun h2 => ?_)
    · try simp only [yb, yc, yd, ye, yf, yg, yh, yi, yj, yk, yl, ym, yn, yo] at h2
      refine awp_drawn_e (fun _ => false) (fun _ => false) (QI_block (QI_then KI_awp (QI_loopw (QI_block (QI_then KI_awp QI_endsP))))) (by kernel_rfl) (by decide) (by rw [hB]; rfl) fun K hK base hbase hfr => trd_run ?_
      simp (disch := omega) only [go_sem, ↓reduceIte, za, zb, zc, zd, ze, zf, zg, zh, zi, zj, zk, zl, zm, zn, zo, hx, ho, dec_t, dec_f, ltI, leI, leN, le63, le40, le0, wrap64_id, wrapu64_id, wrap8_id]
      refine trd_nil (hK _ _ _ ?_)
      clear hK K hfr
      refine block_n ?_
      refine then_n ?_
      refine awp_region_e (fun _ => false) (by rw [hB]; rfl) fun K hK base hbase hfr => tr_run ?_
      simp (disch := omega) only [go_sem, ↓reduceIte, za, zb, zc, zd, ze, zf, zg, zh, zi, zj, zk, zl, zm, zn, zo, dec_t, dec_f, ltI, leI, leN, le63, le40, le0, wrap64_id, wrapu64_id, wrap8_id]
      refine tr_nil (hK _ _ _ ?_)
      clear hK K hbase hfr base
      refine then_n ⟨(i + 1, out ++ [x], base + 7), ?_, ?_, ?_, ?_, Sh.sub_refl _⟩
      · refine ⟨?_, ?_, hi, Nat.le_trans hbase (Nat.le_add_right _ _)⟩
        · show (out ++ [x]) ++ (l.drop (i + 1)).filter dCheck = l.filter dCheck
          rw [← h0, drop_cons_of hx, List.filter_cons, if_pos h2, List.append_assoc]; rfl
        · show (out ++ [x]).length ≤ i + 1; simp only [List.length_append, List.length_cons, List.length_nil]; omega
      · show l.length - (i + 1) < l.length - i; omega
      · exact Env.subW_one rfl <| Env.subW_one rfl <| Env.subW_one rfl <| Env.subW_one rfl <| Env.subW_one rfl <| Env.subW_nil _
      · exact Boxes.subW_one rfl <| Boxes.subW_one rfl <| Boxes.subW_cons rfl (.cons (.refl _) (.cons (vw0_tok (by simp [dot]) rfl) .nil)) <| Boxes.subW_nil _
    · try simp only [yb, yc, yd, ye, yf, yg, yh, yi, yj, yk, yl, ym, yn, yo] at h2
      refine awp_skip ?_
      refine block_n ?_
      refine then_n ?_
      refine awp_region_e (fun _ => false) (by rw [hB]; rfl) fun K hK base hbase hfr => tr_run ?_
      simp (disch := omega) only [go_sem, ↓reduceIte, za, zb, zc, zd, ze, zf, zg, zh, zi, zj, zk, zl, zm, zn, zo, dec_t, dec_f, ltI, leI, leN, le63, le40, le0, wrap64_id, wrapu64_id, wrap8_id]
      refine tr_nil (hK _ _ _ ?_)
      clear hK K hbase hfr base
      refine then_n ⟨(i + 1, out, t), ?_, ?_, ?_, ?_, Sh.sub_refl _⟩
      · refine ⟨?_, ?_, hi, ht⟩
        · show out ++ (l.drop (i + 1)).filter dCheck = l.filter dCheck
          rw [← h0, drop_cons_of hx, List.filter_cons, if_neg (by simp [h2])]
        · show out.length ≤ i + 1; omega
      · show l.length - (i + 1) < l.length - i; omega
      · exact Env.subW_one rfl <| Env.subW_one rfl <| Env.subW_one rfl <| Env.subW_one rfl <| Env.subW_one rfl <| Env.subW_nil _
      · exact Boxes.subW_one rfl <| Boxes.subW_one rfl <| Boxes.subW_cons rfl (.cons (.refl _) (.cons (vw0_tok (by simp [dot]) rfl) .nil)) <| Boxes.subW_nil _
  · try simp only [yb, yc, yd, ye, yf, yg, yh, yi, yj, yk, yl, ym, yn, yo] at h1
    refine awp_exit ?_
    refine then_x ?_
    refine then_x ?_
    refine block_x ?_
    refine then_n ?_
    have e : l.filter dCheck = out := by rw [← h0, get_le h1]; simp
    have hcok := Cok_sorted hl
    rw [e] at hcok
    refine awp_region_k (fun _ => false) (by rw [hB]; rfl) fun K hK base hbase hfr => tr_run ?_
    simp (disch := omega) only [go_sem, ↓reduceIte, za, zb, zc, zd, ze, zf, zg, zh, zi, zj, zk, zl, zm, zn, zo, dec_t, dec_f, ltI, leI, leN, le63, le40, le0, wrap64_id, wrapu64_id, wrap8_id]
    refine tr_pc (by rfl) (by simp only [go_sem, ↓reduceIte, za, zb, zc, zd, ze, zf, zg, zh, zi, zj, zk, zl, zm, zn, zo] <;> rfl) (c156 out _ (by omega)) ?_
    simp (disch := omega) only [go_sem, ↓reduceIte, za, zb, zc, zd, ze, zf, zg, zh, zi, zj, zk, zl, zm, zn, zo, dec_t, dec_f, ltI, leI, leN, le63, le40, le0, wrap64_id, wrapu64_id, wrap8_id]
    refine tr_nil (hK _ _ _ ?_)
    clear hK K hbase hfr base
    refine awp_region_k (fun _ => false) (by rw [hB]; rfl) fun K hK base hbase hfr => tr_run ?_
    simp (disch := omega) only [go_sem, ↓reduceIte, za, zb, zc, zd, ze, zf, zg, zh, zi, zj, zk, zl, zm, zn, zo, dec_t, dec_f, ltI, leI, leN, le63, le40, le0, wrap64_id, wrapu64_id, wrap8_id]
    refine tr_pc (by rfl) (by simp only [go_sem, ↓reduceIte, za, zb, zc, zd, ze, zf, zg, zh, zi, zj, zk, zl, zm, zn, zo] <;> rfl) (c44 c ⟨[], dSort out⟩ t1 t2 .full .no hc hcok) ?_
    simp (disch := omega) only [go_sem, ↓reduceIte, za, zb, zc, zd, ze, zf, zg, zh, zi, zj, zk, zl, zm, zn, zo, dec_t, dec_f, ltI, leI, leN, le63, le40, le0, wrap64_id, wrapu64_id, wrap8_id]
    refine tr_nil (hK _ _ _ ?_)
    clear hK K hbase hfr base
    refine awp_ret ?_
    refine ⟨_, rfl, ?_, fun _ _ h => h, fun _ h => List.mem_cons_of_mem _ h⟩
    rw [show cAdd c l = cJoin c ⟨[], dSort out⟩ by rw [← e]; rfl]; exact VW.refl _
end Go.Am
namespace Go.Am
open Go
open Nat renaming reduceEqDiff → za, reduceAdd → zb, reduceMul → zc, reducePow → zd, reduceLeDiff → ze, reduceSub → zf, reduceBEq → zg, reduceBNe → zh, reduceDiv → zi, reduceMod → zj
open Int renaming reduceLT → zk, reduceLE → zl, reduceEq → zm, reduceNe → zn, reduceToNat → zo
def bOk : Option Int → List (Int × Int) → Bool
  | _, [] => true
  | p, d :: l => dCheck d && (!(p == some d.1) && bOk (some d.1) l)
def kOk (c : Ctx) (l : List (Int × Int)) : Bool := l.all fun d => dCheck d && !(decide (d.2 ≤ dBase c.base d.1 + 1))
def cCheck (c : Ctx) : Bool := dRises c.base && (dRises c.cloud && (bOk none c.base && kOk c c.cloud))
def prevOf (l : List (Int × Int)) : Nat → Option Int
  | 0 => none
  | i + 1 => some (l.getD i (0, 0)).1
theorem prevOf_pos {l : List (Int × Int)} {i : Nat} {y : Int × Int} (hy : l[i - 1]? = some y) (h : 0 < i) : prevOf l i = some y.1 := by
  cases i with
  | zero => omega
  | succ j => simp at hy; simp [prevOf, List.getD, hy]
theorem prev_next {l : List (Int × Int)} {i : Nat} {x : Int × Int} (hx : l[i]? = some x) : prevOf l (i + 1) = some x.1 := by simp [prevOf, List.getD, hx]
theorem c159 (c : Ctx) (t1 t2 : Tag) (hb : ∀ d ∈ c.base, 0 ≤ d.2 ∧ d.2 ≤ 4611686018427387904) : PCalls Go.Proofs.Tryz.prog 159 [ctxV c t1 t2] (.int .i64 (if cCheck c then 0 else 1)) := by
  refine pcalls_of_awp Go.Proofs.Tryz.func159 rfl (by decide) (Nat.le_of_ble_eq_true rfl) ?_
  intro B σ hB ho hob
  refine awp_region_k (fun _ => false) (by rw [hB]; rfl) fun K hK base hbase hfr => tr_run ?_
  simp (disch := omega) only [go_sem, ↓reduceIte, za, zb, zc, zd, ze, zf, zg, zh, zi, zj, zk, zl, zm, zn, zo, dec_t, dec_f, ltI, leI, leN, le63, le40, le0, wrap64_id, wrapu64_id, wrap8_id]
  refine tr_nil (hK _ _ _ ?_)
  clear hK K hbase hfr base
  refine awp_region_k (fun _ => false) (by rw [hB]; rfl) fun K hK base hbase hfr => tr_run ?_
  simp (disch := omega) only [go_sem, ↓reduceIte, za, zb, zc, zd, ze, zf, zg, zh, zi, zj, zk, zl, zm, zn, zo, dec_t, dec_f, ltI, leI, leN, le63, le40, le0, wrap64_id, wrapu64_id, wrap8_id]
  refine tr_pc (by rfl) (by simp only [go_sem, ↓reduceIte, za, zb, zc, zd, ze, zf, zg, zh, zi, zj, zk, zl, zm, zn, zo] <;> rfl) (c197 c.base t1) ?_
  simp (disch := omega) only [go_sem, ↓reduceIte, za, zb, zc, zd, ze, zf, zg, zh, zi, zj, zk, zl, zm, zn, zo, dec_t, dec_f, ltI, leI, leN, le63, le40, le0, wrap64_id, wrapu64_id, wrap8_id]
  refine tr_nil (hK _ _ _ ?_)
  clear hK K hbase hfr base
  refine awp_region_k (fun _ => false) (by rw [hB]; rfl) fun K hK base hbase hfr => tr_run ?_
  simp (disch := omega) only [go_sem, ↓reduceIte, za, zb, zc, zd, ze, zf, zg, zh, zi, zj, zk, zl, zm, zn, zo, dec_t, dec_f, ltI, leI, leN, le63, le40, le0, wrap64_id, wrapu64_id, wrap8_id]
  refine tr_pc (by rfl) (by simp only [go_sem, ↓reduceIte, za, zb, zc, zd, ze, zf, zg, zh, zi, zj, zk, zl, zm, zn, zo] <;> rfl) (c197 c.cloud t2) ?_
  simp (disch := omega) only [go_sem, ↓reduceIte, za, zb, zc, zd, ze, zf, zg, zh, zi, zj, zk, zl, zm, zn, zo, dec_t, dec_f, ltI, leI, leN, le63, le40, le0, wrap64_id, wrapu64_id, wrap8_id]
  refine tr_nil (hK _ _ _ ?_)
  clear hK K hbase hfr base
  refine awp_seq ?_
  rcases q1 : dRises c.base with _ | _
  · skip
    refine awp_region_k (fun _ => false) (by rw [hB]; rfl) fun K hK base hbase hfr => tr_run ?_
    simp (disch := omega) only [go_sem, ↓reduceIte, za, zb, zc, zd, ze, zf, zg, zh, zi, zj, zk, zl, zm, zn, zo, q1, dec_t, dec_f, ltI, leI, leN, le63, le40, le0, wrap64_id, wrapu64_id, wrap8_id]
    refine tr_nil (hK _ _ _ ?_)
    clear hK K hbase hfr base
    try simp only [yb, yc, yd, ye, yf, yg, yh, yi, yj, yk, yl, ym, yn, yo] at q1
    refine awp_cond (rfl) (fun h2 => ?_) (fun h2 => by cases h2)
    refine awp_region_k (fun _ => false) (by rw [hB]; rfl) fun K hK base hbase hfr => tr_run ?_
    simp (disch := omega) only [go_sem, ↓reduceIte, za, zb, zc, zd, ze, zf, zg, zh, zi, zj, zk, zl, zm, zn, zo, dec_t, dec_f, ltI, leI, leN, le63, le40, le0, wrap64_id, wrapu64_id, wrap8_id]
    refine tr_nil (hK _ _ _ ?_)
    clear hK K hbase hfr base
    refine awp_ret ?_
    refine then_r ?_
    rw [show cCheck c = false by unfold cCheck; rw [q1]; rfl]
    exact ⟨_, rfl, VW.refl _, fun _ _ h => h, fun _ h => h⟩
  · skip
    refine awp_region_k (fun _ => false) (by rw [hB]; rfl) fun K hK base hbase hfr => tr_run ?_
    simp (disch := omega) only [go_sem, ↓reduceIte, za, zb, zc, zd, ze, zf, zg, zh, zi, zj, zk, zl, zm, zn, zo, q1, dec_t, dec_f, ltI, leI, leN, le63, le40, le0, wrap64_id, wrapu64_id, wrap8_id]
    refine tr_nil (hK _ _ _ ?_)
    clear hK K hbase hfr base
    try simp only [yb, yc, yd, ye, yf, yg, yh, yi, yj, yk, yl, ym, yn, yo] at q1
    refine awp_cond (rfl) (fun h3 => ?_) (fun h3 => ?_)
    · try simp only [yb, yc, yd, ye, yf, yg, yh, yi, yj, yk, yl, ym, yn, yo] at h3
      refine awp_region_k (fun _ => false) (by rw [hB]; rfl) fun K hK base hbase hfr => tr_run ?_
      simp (disch := omega) only [go_sem, ↓reduceIte, za, zb, zc, zd, ze, zf, zg, zh, zi, zj, zk, zl, zm, zn, zo, dec_t, dec_f, ltI, leI, leN, le63, le40, le0, wrap64_id, wrapu64_id, wrap8_id]
      refine tr_nil (hK _ _ _ ?_)
      clear hK K hbase hfr base
      refine awp_ret ?_
      refine then_r ?_
      rw [show cCheck c = false by unfold cCheck; rw [show dRises c.cloud = false by simpa using h3, q1]; rfl]
      exact ⟨_, rfl, VW.refl _, fun _ _ h => h, fun _ h => h⟩
    · try simp only [yb, yc, yd, ye, yf, yg, yh, yi, yj, yk, yl, ym, yn, yo] at h3
      refine awp_skip ?_
      refine then_n ?_
      refine awp_seq ?_
      refine awp_region_k (fun _ => false) (by rw [hB]; rfl) fun K hK base hbase hfr => tr_run ?_
      simp (disch := omega) only [go_sem, ↓reduceIte, za, zb, zc, zd, ze, zf, zg, zh, zi, zj, zk, zl, zm, zn, zo, dec_t, dec_f, ltI, leI, leN, le63, le40, le0, wrap64_id, wrapu64_id, wrap8_id]
      refine tr_nil (hK _ _ _ ?_)
      clear hK K hbase hfr base
      refine awp_block ?_
      refine awp_loop_w (α := Nat) (fun x => bOk (prevOf c.base x) (c.base.drop x) = bOk none c.base) (fun x => [(1, .lref 1 0), (2, .int .i64 0), (5, .int .i64 x)]) (fun x => [(1, [.list (c.base.map dot) t1, .list (c.cloud.map dot) t2])]) (fun x => σ) (fun x => c.base.length - x) 0 ?_ ?_ ?_ (Sh.sub_refl _) ?_
      · exact rfl
      · exact Env.subW_one rfl <| Env.subW_one rfl <| Env.subW_one rfl <| Env.subW_nil _
      · exact Boxes.subW_one rfl <| Boxes.subW_nil _
      rintro i h0
      try dsimp only at h0
      refine awp_seq ?_
      refine awp_region_k (fun _ => false) (by rw [hB]; rfl) fun K hK base hbase hfr => tr_run ?_
      simp (disch := omega) only [go_sem, ↓reduceIte, za, zb, zc, zd, ze, zf, zg, zh, zi, zj, zk, zl, zm, zn, zo, dec_t, dec_f, ltI, leI, leN, le63, le40, le0, wrap64_id, wrapu64_id, wrap8_id]
      refine tr_nil (hK _ _ _ ?_)
      clear hK K hbase hfr base
      refine awp_len 23 rfl fun hlen => ?_
      simp only [List.length_map] at hlen
      refine awp_cond (rfl) (fun h4 => ?_) (fun h4 => ?_)
      · try simp only [yb, yc, yd, ye, yf, yg, yh, yi, yj, yk, yl, ym, yn, yo] at h4
        obtain ⟨x, hx, hm, hi⟩ := get_of_lt h4
        obtain ⟨y, hy⟩ : ∃ y, c.base[i - 1]? = some y := ⟨c.base[i - 1], List.getElem?_eq_getElem (by omega)⟩
        have hip : ((i : Int) - 1).toNat = i - 1 := by omega
        refine awp_skip ?_
        refine then_n ?_
        refine awp_seq ?_
        refine awp_block ?_
        rcases q5 : dCheck x with _ | _
        · skip
          refine awp_region_k (fun _ => false) (by rw [hB]; rfl) fun K hK base hbase hfr => tr_run ?_
          simp (disch := omega) only [go_sem, ↓reduceIte, za, zb, zc, zd, ze, zf, zg, zh, zi, zj, zk, zl, zm, zn, zo, hx, q5, dec_t, dec_f, ltI, leI, leN, le63, le40, le0, wrap64_id, wrapu64_id, wrap8_id]
          refine tr_pc (by rfl) (by simp only [go_sem, ↓reduceIte, za, zb, zc, zd, ze, zf, zg, zh, zi, zj, zk, zl, zm, zn, zo, hx, q5] <;> rfl) (c99 x) ?_
          simp (disch := omega) only [go_sem, ↓reduceIte, za, zb, zc, zd, ze, zf, zg, zh, zi, zj, zk, zl, zm, zn, zo, hx, q5, dec_t, dec_f, ltI, leI, leN, le63, le40, le0, wrap64_id, wrapu64_id, wrap8_id]
          refine tr_nil (hK _ _ _ ?_)
          clear hK K hbase hfr base
          try simp only [yb, yc, yd, ye, yf, yg, yh, yi, yj, yk, yl, ym, yn, yo] at q5
          rcases q6 : decide ((0 : Int) < (i : Int)) with _ | _
          · skip
            refine awp_drawn_k (fun _ => false) (fun _ => false) (by kernel_rfl) (by decide) (by rw [hB]; rfl) fun K hK base hbase hfr => trd_run ?_
            try have hpos : (0 : Int) < (i : Int) := of_decide_eq_true (by assumption)
            simp (disch := omega) only [go_sem, ↓reduceIte, za, zb, zc, zd, ze, zf, zg, zh, zi, zj, zk, zl, zm, zn, zo, hx, hy, hip, q6, dec_t, dec_f, ltI, leI, leN, le63, le40, le0, wrap64_id, wrapu64_id, wrap8_id]
            refine trd_nil (hK _ _ _ ?_)
            clear hK K hbase hfr base
            try simp only [yb, yc, yd, ye, yf, yg, yh, yi, yj, yk, yl, ym, yn, yo] at q6
            refine awp_cond (rfl) (fun h7 => ?_) (fun h7 => by cases h7)
            refine awp_region_k (fun _ => false) (by rw [hB]; rfl) fun K hK base hbase hfr => tr_run ?_
            simp (disch := omega) only [go_sem, ↓reduceIte, za, zb, zc, zd, ze, zf, zg, zh, zi, zj, zk, zl, zm, zn, zo, dec_t, dec_f, ltI, leI, leN, le63, le40, le0, wrap64_id, wrapu64_id, wrap8_id]
            refine tr_nil (hK _ _ _ ?_)
            clear hK K hbase hfr base
            refine awp_ret ?_
            refine block_r ?_
            refine then_r ?_
            refine then_r ?_
            refine block_r ?_
            refine then_r ?_
            rw [show cCheck c = false by unfold cCheck; rw [show bOk none c.base = false by rw [← h0, drop_cons_of hx, bOk, q5]; rfl]; simp]
            exact ⟨_, rfl, VW.refl _, fun _ _ h => h, fun _ h => h⟩
          · skip
            refine awp_drawn_k (fun _ => false) (fun _ => false) (by kernel_rfl) (by decide) (by rw [hB]; rfl) fun K hK base hbase hfr => trd_run ?_
            try have hpos : (0 : Int) < (i : Int) := of_decide_eq_true (by assumption)
            simp (disch := omega) only [go_sem, ↓reduceIte, za, zb, zc, zd, ze, zf, zg, zh, zi, zj, zk, zl, zm, zn, zo, hx, hy, hip, q6, dec_t, dec_f, ltI, leI, leN, le63, le40, le0, wrap64_id, wrapu64_id, wrap8_id]
            refine trd_nil (hK _ _ _ ?_)
            clear hK K hbase hfr base
            try simp only [yb, yc, yd, ye, yf, yg, yh, yi, yj, yk, yl, ym, yn, yo] at q6
            refine awp_cond (rfl) (fun h8 => ?_) (fun h8 => by cases h8)
            refine awp_region_k (fun _ => false) (by rw [hB]; rfl) fun K hK base hbase hfr => tr_run ?_
            simp (disch := omega) only [go_sem, ↓reduceIte, za, zb, zc, zd, ze, zf, zg, zh, zi, zj, zk, zl, zm, zn, zo, dec_t, dec_f, ltI, leI, leN, le63, le40, le0, wrap64_id, wrapu64_id, wrap8_id]
            refine tr_nil (hK _ _ _ ?_)
            clear hK K hbase hfr base
            refine awp_ret ?_
            refine block_r ?_
            refine then_r ?_
            refine then_r ?_
            refine block_r ?_
            refine then_r ?_
            rw [show cCheck c = false by unfold cCheck; rw [show bOk none c.base = false by rw [← h0, drop_cons_of hx, bOk, q5]; rfl]; simp]
            exact ⟨_, rfl, VW.refl _, fun _ _ h => h, fun _ h => h⟩
        · skip
          refine awp_region_k (fun _ => false) (by rw [hB]; rfl) fun K hK base hbase hfr => tr_run ?_
          simp (disch := omega) only [go_sem, ↓reduceIte, za, zb, zc, zd, ze, zf, zg, zh, zi, zj, zk, zl, zm, zn, zo, hx, q5, dec_t, dec_f, ltI, leI, leN, le63, le40, le0, wrap64_id, wrapu64_id, wrap8_id]
          refine tr_pc (by rfl) (by simp only [go_sem, ↓reduceIte, za, zb, zc, zd, ze, zf, zg, zh, zi, zj, zk, zl, zm, zn, zo, hx, q5] <;> rfl) (c99 x) ?_
          simp (disch := omega) only [go_sem, ↓reduceIte, za, zb, zc, zd, ze, zf, zg, zh, zi, zj, zk, zl, zm, zn, zo, hx, q5, dec_t, dec_f, ltI, leI, leN, le63, le40, le0, wrap64_id, wrapu64_id, wrap8_id]
          refine tr_nil (hK _ _ _ ?_)
          clear hK K hbase hfr base
          try simp only [yb, yc, yd, ye, yf, yg, yh, yi, yj, yk, yl, ym, yn, yo] at q5
          rcases q9 : decide ((0 : Int) < (i : Int)) with _ | _
          · skip
            refine awp_drawn_k (fun _ => false) (fun _ => false) (by kernel_rfl) (by decide) (by rw [hB]; rfl) fun K hK base hbase hfr => trd_run ?_
            try have hpos : (0 : Int) < (i : Int) := of_decide_eq_true (by assumption)
            simp (disch := omega) only [go_sem, ↓reduceIte, za, zb, zc, zd, ze, zf, zg, zh, zi, zj, zk, zl, zm, zn, zo, hx, hy, hip, q9, dec_t, dec_f, ltI, leI, leN, le63, le40, le0, wrap64_id, wrapu64_id, wrap8_id]
            refine trd_nil (hK _ _ _ ?_)
            clear hK K hbase hfr base
            try simp only [yb, yc, yd, ye, yf, yg, yh, yi, yj, yk, yl, ym, yn, yo] at q9
            refine awp_cond (rfl) (fun h10 => by cases h10) (fun h10 => ?_)
            refine awp_skip ?_
            refine block_n ?_
            refine then_n ?_
            refine awp_region_e (fun _ => false) (by rw [hB]; rfl) fun K hK base hbase hfr => tr_run ?_
            simp (disch := omega) only [go_sem, ↓reduceIte, za, zb, zc, zd, ze, zf, zg, zh, zi, zj, zk, zl, zm, zn, zo, dec_t, dec_f, ltI, leI, leN, le63, le40, le0, wrap64_id, wrapu64_id, wrap8_id]
            refine tr_nil (hK _ _ _ ?_)
            clear hK K hbase hfr base
            refine then_n ⟨i + 1, ?_, ?_, ?_, ?_, Sh.sub_refl _⟩
            · show bOk (prevOf c.base (i + 1)) (c.base.drop (i + 1)) = _
              rw [← h0, drop_cons_of hx, prev_next hx, bOk, q5, show i = 0 by omega]; rfl
            · show c.base.length - (i + 1) < c.base.length - i; omega
            · exact Env.subW_one rfl <| Env.subW_one rfl <| Env.subW_one rfl <| Env.subW_nil _
            · exact Boxes.subW_one rfl <| Boxes.subW_nil _
          · skip
            refine awp_drawn_k (fun _ => false) (fun _ => false) (by kernel_rfl) (by decide) (by rw [hB]; rfl) fun K hK base hbase hfr => trd_run ?_
            try have hpos : (0 : Int) < (i : Int) := of_decide_eq_true (by assumption)
            simp (disch := omega) only [go_sem, ↓reduceIte, za, zb, zc, zd, ze, zf, zg, zh, zi, zj, zk, zl, zm, zn, zo, hx, hy, hip, q9, dec_t, dec_f, ltI, leI, leN, le63, le40, le0, wrap64_id, wrapu64_id, wrap8_id]
            refine trd_nil (hK _ _ _ ?_)
            clear hK K hbase hfr base
            try simp only [yb, yc, yd, ye, yf, yg, yh, yi, yj, yk, yl, ym, yn, yo] at q9
            refine awp_cond (rfl) (fun h11 => ?_) (fun h11 => ?_)
            · try simp only [yb, yc, yd, ye, yf, yg, yh, yi, yj, yk, yl, ym, yn, yo] at h11
              refine awp_region_k (fun _ => false) (by rw [hB]; rfl) fun K hK base hbase hfr => tr_run ?_
              simp (disch := omega) only [go_sem, ↓reduceIte, za, zb, zc, zd, ze, zf, zg, zh, zi, zj, zk, zl, zm, zn, zo, dec_t, dec_f, ltI, leI, leN, le63, le40, le0, wrap64_id, wrapu64_id, wrap8_id]
              refine tr_nil (hK _ _ _ ?_)
              clear hK K hbase hfr base
              refine awp_ret ?_
              refine block_r ?_
              refine then_r ?_
              refine then_r ?_
              refine block_r ?_
              refine then_r ?_
              rw [show cCheck c = false by unfold cCheck; rw [show bOk none c.base = false by rw [← h0, drop_cons_of hx, bOk, q5, prevOf_pos hy (by omega), show ((some y.1 : Option Int) == some x.1) = true by simpa using h11]; rfl]; simp]
              exact ⟨_, rfl, VW.refl _, fun _ _ h => h, fun _ h => h⟩
            · try simp only [yb, yc, yd, ye, yf, yg, yh, yi, yj, yk, yl, ym, yn, yo] at h11
              refine awp_skip ?_
              refine block_n ?_
              refine then_n ?_
              refine awp_region_e (fun _ => false) (by rw [hB]; rfl) fun K hK base hbase hfr => tr_run ?_
              simp (disch := omega) only [go_sem, ↓reduceIte, za, zb, zc, zd, ze, zf, zg, zh, zi, zj, zk, zl, zm, zn, zo, dec_t, dec_f, ltI, leI, leN, le63, le40, le0, wrap64_id, wrapu64_id, wrap8_id]
              refine tr_nil (hK _ _ _ ?_)
              clear hK K hbase hfr base
              refine then_n ⟨i + 1, ?_, ?_, ?_, ?_, Sh.sub_refl _⟩
              · show bOk (prevOf c.base (i + 1)) (c.base.drop (i + 1)) = _
                rw [← h0, drop_cons_of hx, prev_next hx, bOk, q5, prevOf_pos hy (by omega)]
                have : ((some y.1 : Option Int) == some x.1) = false := by simpa using h11
                rw [this]; rfl
              · show c.base.length - (i + 1) < c.base.length - i; omega
              · exact Env.subW_one rfl <| Env.subW_one rfl <| Env.subW_one rfl <| Env.subW_nil _
              · exact Boxes.subW_one rfl <| Boxes.subW_nil _
      · try simp only [yb, yc, yd, ye, yf, yg, yh, yi, yj, yk, yl, ym, yn, yo] at h4
        refine awp_exit ?_
        refine then_x ?_
        refine then_x ?_
        refine block_x ?_
        refine then_n ?_
        refine awp_seq ?_
        refine awp_region_k (fun _ => false) (by rw [hB]; rfl) fun K hK base hbase hfr => tr_run ?_
        simp (disch := omega) only [go_sem, ↓reduceIte, za, zb, zc, zd, ze, zf, zg, zh, zi, zj, zk, zl, zm, zn, zo, dec_t, dec_f, ltI, leI, leN, le63, le40, le0, wrap64_id, wrapu64_id, wrap8_id]
        refine tr_nil (hK _ _ _ ?_)
        clear hK K hbase hfr base
        refine awp_block ?_
        refine awp_loop_w (α := Nat) (fun x => kOk c (c.cloud.drop x) = kOk c c.cloud) (fun x => [(1, .lref 1 0), (2, .int .i64 0), (7, .int .i64 x)]) (fun x => [(1, [.list (c.base.map dot) t1, .list (c.cloud.map dot) t2])]) (fun x => σ) (fun x => c.cloud.length - x) 0 ?_ ?_ ?_ (Sh.sub_refl _) ?_
        · exact rfl
        · exact Env.subW_one rfl <| Env.subW_one rfl <| Env.subW_one rfl <| Env.subW_nil _
        · exact Boxes.subW_one rfl <| Boxes.subW_nil _
        have hbk : bOk none c.base = true := by rw [← h0, get_le h4]; cases prevOf c.base i <;> rfl
        clear h0
        rintro i h0
        try dsimp only at h0
        refine awp_seq ?_
        refine awp_region_k (fun _ => false) (by rw [hB]; rfl) fun K hK base hbase hfr => tr_run ?_
        simp (disch := omega) only [go_sem, ↓reduceIte, za, zb, zc, zd, ze, zf, zg, zh, zi, zj, zk, zl, zm, zn, zo, dec_t, dec_f, ltI, leI, leN, le63, le40, le0, wrap64_id, wrapu64_id, wrap8_id]
        refine tr_nil (hK _ _ _ ?_)
        clear hK K hbase hfr base
        refine awp_len 58 rfl fun hlen => ?_
        simp only [List.length_map] at hlen
        refine awp_cond (rfl) (fun h12 => ?_) (fun h12 => ?_)
        · try simp only [yb, yc, yd, ye, yf, yg, yh, yi, yj, yk, yl, ym, yn, yo] at h12
          obtain ⟨x, hx, hm, hi⟩ := get_of_lt h12
          obtain ⟨g1, g2⟩ := dBase_ok hb x.1
          refine awp_skip ?_
          refine then_n ?_
          refine awp_seq ?_
          refine awp_block ?_
          rcases q13 : dCheck x with _ | _
          · skip
            refine awp_region_k (fun _ => false) (by rw [hB]; rfl) fun K hK base hbase hfr => tr_run ?_
            simp (disch := omega) only [go_sem, ↓reduceIte, za, zb, zc, zd, ze, zf, zg, zh, zi, zj, zk, zl, zm, zn, zo, hx, q13, dec_t, dec_f, ltI, leI, leN, le63, le40, le0, wrap64_id, wrapu64_id, wrap8_id]
            refine tr_pc (by rfl) (by simp only [go_sem, ↓reduceIte, za, zb, zc, zd, ze, zf, zg, zh, zi, zj, zk, zl, zm, zn, zo, hx, q13] <;> rfl) (c99 x) ?_
            simp (disch := omega) only [go_sem, ↓reduceIte, za, zb, zc, zd, ze, zf, zg, zh, zi, zj, zk, zl, zm, zn, zo, hx, q13, dec_t, dec_f, ltI, leI, leN, le63, le40, le0, wrap64_id, wrapu64_id, wrap8_id]
            refine tr_nil (hK _ _ _ ?_)
            clear hK K hbase hfr base
            try simp only [yb, yc, yd, ye, yf, yg, yh, yi, yj, yk, yl, ym, yn, yo] at q13
            refine awp_drawn_k (fun f => f == 102) (fun _ => false) (by kernel_rfl) (by decide) (by rw [hB]; rfl) fun K hK base hbase hfr => trd_run ?_
            simp (disch := omega) only [go_sem, ↓reduceIte, za, zb, zc, zd, ze, zf, zg, zh, zi, zj, zk, zl, zm, zn, zo, hx, dec_t, dec_f, ltI, leI, leN, le63, le40, le0, wrap64_id, wrapu64_id, wrap8_id]
            refine trd_nil (hK _ _ _ ?_)
            clear hK K hbase hfr base
            refine awp_cond (rfl) (fun h14 => ?_) (fun h14 => by cases h14)
            refine awp_region_k (fun _ => false) (by rw [hB]; rfl) fun K hK base hbase hfr => tr_run ?_
            simp (disch := omega) only [go_sem, ↓reduceIte, za, zb, zc, zd, ze, zf, zg, zh, zi, zj, zk, zl, zm, zn, zo, dec_t, dec_f, ltI, leI, leN, le63, le40, le0, wrap64_id, wrapu64_id, wrap8_id]
            refine tr_nil (hK _ _ _ ?_)
            clear hK K hbase hfr base
            refine awp_ret ?_
            refine block_r ?_
            refine then_r ?_
            refine then_r ?_
            refine block_r ?_
            refine then_r ?_
            rw [show cCheck c = false by unfold cCheck; rw [show kOk c c.cloud = false by rw [← h0, drop_cons_of hx, kOk, List.all_cons, q13]; rfl]; simp]
            exact ⟨_, rfl, VW.refl _, fun _ _ h => h, fun _ h => h⟩
          · skip
            refine awp_region_k (fun _ => false) (by rw [hB]; rfl) fun K hK base hbase hfr => tr_run ?_
            simp (disch := omega) only [go_sem, ↓reduceIte, za, zb, zc, zd, ze, zf, zg, zh, zi, zj, zk, zl, zm, zn, zo, hx, q13, dec_t, dec_f, ltI, leI, leN, le63, le40, le0, wrap64_id, wrapu64_id, wrap8_id]
            refine tr_pc (by rfl) (by simp only [go_sem, ↓reduceIte, za, zb, zc, zd, ze, zf, zg, zh, zi, zj, zk, zl, zm, zn, zo, hx, q13] <;> rfl) (c99 x) ?_
            simp (disch := omega) only [go_sem, ↓reduceIte, za, zb, zc, zd, ze, zf, zg, zh, zi, zj, zk, zl, zm, zn, zo, hx, q13, dec_t, dec_f, ltI, leI, leN, le63, le40, le0, wrap64_id, wrapu64_id, wrap8_id]
            refine tr_nil (hK _ _ _ ?_)
            clear hK K hbase hfr base
            try simp only [yb, yc, yd, ye, yf, yg, yh, yi, yj, yk, yl, ym, yn, yo] at q13
            refine awp_drawn_k (fun f => f == 102) (fun _ => false) (by kernel_rfl) (by decide) (by rw [hB]; rfl) fun K hK base hbase hfr => trd_run ?_
            simp (disch := omega) only [go_sem, ↓reduceIte, za, zb, zc, zd, ze, zf, zg, zh, zi, zj, zk, zl, zm, zn, zo, hx, dec_t, dec_f, ltI, leI, leN, le63, le40, le0, wrap64_id, wrapu64_id, wrap8_id]
            refine trd_pc (by kernel_rfl) (by simp only [go_sem, ↓reduceIte, za, zb, zc, zd, ze, zf, zg, zh, zi, zj, zk, zl, zm, zn, zo, hx]) (by simp only [go_sem, ↓reduceIte, za, zb, zc, zd, ze, zf, zg, zh, zi, zj, zk, zl, zm, zn, zo, hx] <;> rfl) (c102 c t1 t2 x.1) ?_
            simp (disch := omega) only [go_sem, ↓reduceIte, za, zb, zc, zd, ze, zf, zg, zh, zi, zj, zk, zl, zm, zn, zo, hx, dec_t, dec_f, ltI, leI, leN, le63, le40, le0, wrap64_id, wrapu64_id, wrap8_id]
            refine trd_nil (hK _ _ _ ?_)
            clear hK K hbase hfr base
            refine awp_cond (rfl) (fun h15 => ?_) (fun h15 => ?_)
            · try simp only [yb, yc, yd, ye, yf, yg, yh, yi, yj, yk, yl, ym, yn, yo] at h15
              refine awp_region_k (fun _ => false) (by rw [hB]; rfl) fun K hK base hbase hfr => tr_run ?_
              simp (disch := omega) only [go_sem, ↓reduceIte, za, zb, zc, zd, ze, zf, zg, zh, zi, zj, zk, zl, zm, zn, zo, dec_t, dec_f, ltI, leI, leN, le63, le40, le0, wrap64_id, wrapu64_id, wrap8_id]
              refine tr_nil (hK _ _ _ ?_)
              clear hK K hbase hfr base
              refine awp_ret ?_
              refine block_r ?_
              refine then_r ?_
              refine then_r ?_
              refine block_r ?_
              refine then_r ?_
              rw [show cCheck c = false by unfold cCheck; rw [show kOk c c.cloud = false by rw [← h0, drop_cons_of hx, kOk, List.all_cons, q13, show decide (x.2 ≤ dBase c.base x.1 + 1) = true by simpa using h15]; rfl]; simp]
              exact ⟨_, rfl, VW.refl _, fun _ _ h => h, fun _ h => h⟩
            · try simp only [yb, yc, yd, ye, yf, yg, yh, yi, yj, yk, yl, ym, yn, yo] at h15
              refine awp_skip ?_
              refine block_n ?_
              refine then_n ?_
              refine awp_region_e (fun _ => false) (by rw [hB]; rfl) fun K hK base hbase hfr => tr_run ?_
              simp (disch := omega) only [go_sem, ↓reduceIte, za, zb, zc, zd, ze, zf, zg, zh, zi, zj, zk, zl, zm, zn, zo, dec_t, dec_f, ltI, leI, leN, le63, le40, le0, wrap64_id, wrapu64_id, wrap8_id]
              refine tr_nil (hK _ _ _ ?_)
              clear hK K hbase hfr base
              refine then_n ⟨i + 1, ?_, ?_, ?_, ?_, Sh.sub_refl _⟩
              · show kOk c (c.cloud.drop (i + 1)) = _
                rw [← h0, drop_cons_of hx, kOk, kOk, List.all_cons, q13]
                have : decide (x.2 ≤ dBase c.base x.1 + 1) = false := by simpa using h15
                rw [this]; rfl
              · show c.cloud.length - (i + 1) < c.cloud.length - i; omega
              · exact Env.subW_one rfl <| Env.subW_one rfl <| Env.subW_one rfl <| Env.subW_nil _
              · exact Boxes.subW_one rfl <| Boxes.subW_nil _
        · try simp only [yb, yc, yd, ye, yf, yg, yh, yi, yj, yk, yl, ym, yn, yo] at h12
          refine awp_exit ?_
          refine then_x ?_
          refine then_x ?_
          refine block_x ?_
          refine then_n ?_
          refine awp_region_k (fun _ => false) (by rw [hB]; rfl) fun K hK base hbase hfr => tr_run ?_
          simp (disch := omega) only [go_sem, ↓reduceIte, za, zb, zc, zd, ze, zf, zg, zh, zi, zj, zk, zl, zm, zn, zo, dec_t, dec_f, ltI, leI, leN, le63, le40, le0, wrap64_id, wrapu64_id, wrap8_id]
          refine tr_nil (hK _ _ _ ?_)
          clear hK K hbase hfr base
          refine awp_ret ?_
          rw [show cCheck c = true by unfold cCheck; simp only [q1, Bool.true_and]; rw [show dRises c.cloud = true by simpa using h3, hbk, show kOk c c.cloud = true by rw [← h0, get_le h12]; rfl]; rfl]
          exact ⟨_, rfl, VW.refl _, fun _ _ h => h, fun _ h => h⟩
end Go.Am
