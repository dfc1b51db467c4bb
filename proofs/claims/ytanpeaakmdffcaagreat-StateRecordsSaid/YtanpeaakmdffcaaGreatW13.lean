/- What functions of this program compute, a part: see the main text. No conditions. -/
import Derived.Test.YtanpeaakmdffcaaGreatW11
import Derived.Test.YtanpeaakmdffcaaGreatW12
import Derived.Laws.BitsAllLaws
import Derived.Laws.Bits128
set_option linter.all false
set_option maxRecDepth 100000
namespace Go.Am
open Go

theorem bitLenAux_lt : ∀ (f x : Nat), x < 2 ^ f → x < 2 ^ Lib.bitLenAux f x ∧ (0 < x → 2 ^ (Lib.bitLenAux f x - 1) ≤ x ∧ 0 < Lib.bitLenAux f x)
  | 0, x, h => by
    have : x = 0 := by simpa using h
    subst this
    exact ⟨by decide, fun h => absurd h (by decide)⟩
  | f + 1, x, h => by
    unfold Lib.bitLenAux
    split
    · rename_i h0; subst h0; exact ⟨by decide, fun h => absurd h (by decide)⟩
    · rename_i h0
      obtain ⟨h1, h2⟩ := bitLenAux_lt f (x / 2) (by rw [Nat.pow_succ] at h; omega)
      refine ⟨by rw [Nat.add_comm, Nat.pow_succ]; omega, fun _ => ⟨?_, by omega⟩⟩
      rcases Nat.eq_zero_or_pos (x / 2) with h3 | h3
      · rw [h3] at h1 ⊢
        have : Lib.bitLenAux f 0 = 0 := by cases f <;> simp [Lib.bitLenAux]
        rw [this]
        simp only [Nat.add_zero, Nat.sub_self, Nat.pow_zero]
        omega
      · obtain ⟨h4, h5⟩ := h2 h3
        have e : 1 + Lib.bitLenAux f (x / 2) - 1 = (Lib.bitLenAux f (x / 2) - 1) + 1 := by omega
        rw [e, Nat.pow_succ]
        omega

/-- How many digits a number has. -/
def digs (n : Nat) : Nat := max ((Lib.bitLen n + 6) / 7) 1

theorem digs_spec {n : Nat} (h : n < 18446744073709551616) : n < 128 ^ digs n ∧ (1 < digs n → 128 ^ (digs n - 1) ≤ n) ∧ 1 ≤ digs n ∧ digs n ≤ 10 := by
  obtain ⟨h1, h2⟩ := bitLenAux_lt 64 n (by simpa using h)
  have e : ∀ k, 128 ^ k = 2 ^ (7 * k) := fun k => by rw [Nat.pow_mul]
  have hb : Lib.bitLenAux 64 n ≤ 64 := by
    rcases Nat.eq_zero_or_pos n with h0 | h0
    · subst h0; decide
    · obtain ⟨h3, h4⟩ := h2 h0
      have : 2 ^ (Lib.bitLenAux 64 n - 1) < 2 ^ 64 := Nat.lt_of_le_of_lt h3 (by simpa using h)
      have := (Nat.pow_lt_pow_iff_right (by decide : 1 < 2)).1 this
      omega
  have hd : digs n = max ((Lib.bitLenAux 64 n + 6) / 7) 1 := rfl
  refine ⟨?_, fun hk => ?_, by rw [hd]; omega, by rw [hd]; omega⟩
  · rw [e]
    exact Nat.lt_of_lt_of_le h1 (Nat.pow_le_pow_right (by decide) (by rw [hd]; omega))
  · rw [e]
    have h0 : 0 < n := by
      rcases Nat.eq_zero_or_pos n with h0 | h0
      · subst h0; revert hk; decide
      · exact h0
    exact Nat.le_trans (Nat.pow_le_pow_right (by decide) (by rw [hd] at hk ⊢; omega)) (h2 h0).1

/-- The lowest digits, each with the mark that more follow, the highest one first. -/
def dg (n : Nat) : Nat → List Nat
  | 0 => []
  | i + 1 => (128 + n / 128 ^ i % 128) :: dg n i
theorem dg_length (n : Nat) : ∀ i, (dg n i).length = i
  | 0 => rfl
  | i + 1 => by simp [dg, dg_length n i]
theorem dg_succ (n : Nat) : ∀ i, dg n (i + 1) = dg (n / 128) i ++ [128 + n % 128]
  | 0 => by simp [dg]
  | i + 1 => by
    rw [dg, dg_succ n i, dg]
    simp only [List.cons_append]
    rw [Nat.div_div_eq_div_mul, Nat.pow_succ, Nat.mul_comm]
theorem numTail_dg : ∀ (k n : Nat) (s : List UInt8), n < 128 ^ (k + 1) → (0 < k → 128 ^ k ≤ n) → numTail n s = (dg (n / 128) k).map UInt8.ofNat ++ s
  | 0, n, s, h, _ => by
    unfold numTail
    rw [if_pos (by simpa using h)]
    rfl
  | k + 1, n, s, h, h2 => by
    have h3 := h2 (by omega)
    have h4 : 128 ^ (k + 1) = 128 ^ k * 128 := Nat.pow_succ ..
    have h5 : 0 < 128 ^ k := Nat.pow_pos (by decide)
    unfold numTail
    rw [if_neg (by omega), numTail_dg k (n / 128) _ (by rw [Nat.pow_succ] at h; omega) (fun _ => by omega), dg_succ]
    simp
theorem num_dg {n : Nat} (h : n < 18446744073709551616) : num n = (dg (n / 128) (digs n - 1) ++ [n % 128]).map UInt8.ofNat := by
  obtain ⟨h1, h2, h3, _⟩ := digs_spec h
  unfold num
  rw [numTail_dg (digs n - 1) n _ (by rw [Nat.sub_add_cancel h3]; exact h1) (fun h => h2 (by omega))]
  simp

theorem dig8 (m : Nat) : bits .or .u8 (bits .and .u8 (IntKind.u8.wrap ↑m) 127) 128 = ((128 + m % 128 : Nat) : Int) := by
  rw [IntKind.wrap_u8', show ((m : Int) % 256) = ((m % 256 : Nat) : Int) by omega, show (127 : Int) = ((127 : Nat) : Int) from rfl, u8_and_nat _ _ (by omega) (by decide)]
  have : m % 256 &&& 127 = m % 128 := by
    rw [show 127 = 2 ^ 7 - 1 from rfl, Nat.and_two_pow_sub_one_eq_mod]
    omega
  rw [this, u8_or128_right _ (by omega) (by omega)]
  omega
theorem last8 (m : Nat) (h : m < 128) : bits .andNot .u8 ((128 + m : Nat) : Int) 128 = (m : Int) := by
  rw [show (128 : Int) = ((128 : Nat) : Int) from rfl, u8_andNot_nat _ _ (by omega) (by decide)]
  have : (128 + m) &&& (255 - 128) = m := by
    rw [show 255 - 128 = 2 ^ 7 - 1 from rfl, Nat.and_two_pow_sub_one_eq_mod]
    omega
  rw [this]
def u8s (l : List Nat) : List AV := l.map fun x : Nat => AV.int .u8 (x : Int)
theorem u8s_length (l : List Nat) : (u8s l).length = l.length := by simp [u8s]
theorem abytes_u8s (l : List Nat) : abytes (u8s l) = some (l.map UInt8.ofNat) := abytes_map l
theorem u8s_append (a b : List Nat) : u8s (a ++ b) = u8s a ++ u8s b := by simp [u8s]
attribute [go_sem] u8s_length abytes_u8s dg_length dig8
theorem cells_step (n k i : Nat) (h : i < k) : (u8s (List.replicate (k - i) 0 ++ dg n i)).take (k - 1 - i) ++ [AV.int .u8 ((128 + n / 128 ^ i % 128 : Nat) : Int)] ++ (u8s (List.replicate (k - i) 0 ++ dg n i)).drop (k - 1 - i + 1) =
    u8s (List.replicate (k - (i + 1)) 0 ++ dg n (i + 1)) := by
  have e : k - i = (k - 1 - i) + 1 := by omega
  have e2 : k - (i + 1) = k - 1 - i := by omega
  rw [e, e2]
  generalize k - 1 - i = j
  have h1 : List.replicate (j + 1) 0 = List.replicate j 0 ++ [0] := by rw [List.replicate_succ']
  rw [h1]
  simp [u8s, dg, List.take_append, List.drop_append]
end Go.Am
namespace Go.Am
open Go
open Nat renaming reduceEqDiff → za, reduceAdd → zb, reduceMul → zc, reducePow → zd, reduceLeDiff → ze, reduceSub → zf, reduceBEq → zg, reduceBNe → zh, reduceDiv → zi, reduceMod → zj
open Int renaming reduceLT → zk, reduceLE → zl, reduceEq → zm, reduceNe → zn, reduceToNat → zo
theorem c117 (n : Int) (h0 : 0 ≤ n) (hn : n < 18446744073709551616) : PCalls Go.Proofs.Tryz.prog 117 [.int .u64 n] (.str (numI n)) := by
  obtain ⟨m, rfl⟩ := Int.eq_ofNat_of_zero_le h0
  have hm : m < 18446744073709551616 := by omega
  obtain ⟨d1, d2, d3, d4⟩ := digs_spec hm
  have hbl : Lib.bitLen m ≤ 70 := by have : digs m = max ((Lib.bitLen m + 6) / 7) 1 := rfl; omega
  have hmx : max (IntKind.i64.wrap (((Lib.bitLen m : Int) + 7 - 1).tdiv 7)) 1 = (digs m : Int) := by
    have e : ((Lib.bitLen m : Int) + 7 - 1) = ((Lib.bitLen m + 6 : Nat) : Int) := by omega
    have e2 : Int.tdiv ((Lib.bitLen m + 6 : Nat) : Int) 7 = (((Lib.bitLen m + 6) / 7 : Nat) : Int) := rfl
    rw [e, e2, wrap64_id (by omega) (by omega)]
    unfold digs
    omega
  refine pcalls_of_awp Go.Proofs.Tryz.func117 rfl (by decide) (Nat.le_of_ble_eq_true rfl) ?_
  intro B σ hB ho hob
  refine awp_region_k (fun _ => false) (by rw [hB]; rfl) fun K hK base hbase hfr => tr_run ?_
  simp (disch := omega) only [go_sem, ↓reduceIte, za, zb, zc, zd, ze, zf, zg, zh, zi, zj, zk, zl, zm, zn, zo, dec_t, dec_f, ltI, leI, leN, le63, le40, le0, wrap64_id, wrapu64_id, wrap8_id]
  refine tr_nil (hK _ _ _ ?_)
  clear hK K hbase hfr base
  refine awp_region_k (fun _ => false) (by rw [hB]; rfl) fun K hK base hbase hfr => tr_run ?_
  simp (disch := omega) only [go_sem, ↓reduceIte, za, zb, zc, zd, ze, zf, zg, zh, zi, zj, zk, zl, zm, zn, zo, hmx, dec_t, dec_f, ltI, leI, leN, le63, le40, le0, wrap64_id, wrapu64_id, wrap8_id]
  refine tr_pc (by rfl) (by simp only [go_sem, ↓reduceIte, za, zb, zc, zd, ze, zf, zg, zh, zi, zj, zk, zl, zm, zn, zo, hmx] <;> rfl) (c165 _ (by omega) (by omega)) ?_
  simp (disch := omega) only [go_sem, ↓reduceIte, za, zb, zc, zd, ze, zf, zg, zh, zi, zj, zk, zl, zm, zn, zo, hmx, dec_t, dec_f, ltI, leI, leN, le63, le40, le0, wrap64_id, wrapu64_id, wrap8_id]
  refine tr_nil (hK _ _ _ ?_)
  clear hK K hbase hfr base
  refine awp_region_k (fun _ => false) (by rw [hB]; rfl) fun K hK base hbase hfr => tr_run ?_
  simp (disch := omega) only [go_sem, ↓reduceIte, za, zb, zc, zd, ze, zf, zg, zh, zi, zj, zk, zl, zm, zn, zo, dec_t, dec_f, ltI, leI, leN, le63, le40, le0, wrap64_id, wrapu64_id, wrap8_id]
  refine tr_nil (hK _ _ _ ?_)
  clear hK K hfr
  have hid : σ.ob (base + 1) = none := hob _ (by omega)
  generalize base + 1 = oid at hid
  refine awp_seq ?_
  refine awp_region_k (fun _ => false) (by rw [hB]; rfl) fun K hK base hbase hfr => tr_run ?_
  simp (disch := omega) only [go_sem, ↓reduceIte, za, zb, zc, zd, ze, zf, zg, zh, zi, zj, zk, zl, zm, zn, zo, dec_t, dec_f, ltI, leI, leN, le63, le40, le0, wrap64_id, wrapu64_id, wrap8_id]
  refine tr_nil (hK _ _ _ ?_)
  clear hK K hbase hfr base
  refine awp_block ?_
  refine awp_loop_w (α := Nat) (fun x => x ≤ digs m) (fun x => [(0, .int .u64 m), (3, .int .i64 (digs m)), (4, .sl oid (digs m)), (15, .int .i64 (digs m)), (16, .int .i64 x)]) (fun x => []) (fun x => σ.setOb oid (.cells (u8s (List.replicate (digs m - x) 0 ++ dg m x)))) (fun x => digs m - x) 0 ?_ ?_ (Boxes.subW_nil _) (by rw [filled_one]; simp only [Nat.sub_zero, dg, List.append_nil, u8s, List.map_replicate]; exact Sh.sub_refl _) ?_
  · exact Nat.zero_le _
  · exact Env.subW_one rfl <| Env.subW_one rfl <| Env.subW_one rfl <| Env.subW_one rfl <| Env.subW_one rfl <| Env.subW_nil _
  intro i hi
  try dsimp only at hi
  refine awp_region_k (fun _ => false) (by rw [hB]; rfl) fun K hK base hbase hfr => tr_run ?_
  simp (disch := omega) only [go_sem, ↓reduceIte, za, zb, zc, zd, ze, zf, zg, zh, zi, zj, zk, zl, zm, zn, zo, dec_t, dec_f, ltI, leI, leN, le63, le40, le0, wrap64_id, wrapu64_id, wrap8_id]
  refine tr_nil (hK _ _ _ ?_)
  clear hK K hbase hfr base
  refine awp_seq ?_
  refine awp_cond (rfl) (fun h1 => ?_) (fun h1 => ?_)
  · try simp only [yb, yc, yd, ye, yf, yg, yh, yi, yj, yk, yl, ym, yn, yo] at h1
    have hoff : ((digs m : Int) - 1 - (i : Int)).toNat = digs m - 1 - i := by omega
    have hcs := cells_step m (digs m) i (by omega)
    have hsh : Int.fdiv (m : Int) (2 ^ min (7 * (i : Int)).toNat 64) = ((m / 128 ^ i : Nat) : Int) := by
      have e : min (7 * (i : Int)).toNat 64 = 7 * i := by omega
      rw [e, show (2 : Int) ^ (7 * i) = ((128 ^ i : Nat) : Int) by rw [show 128 = 2 ^ 7 from rfl, ← Nat.pow_mul, Int.natCast_pow]; rfl, Int.fdiv_eq_ediv_of_nonneg _ (Int.natCast_nonneg _)]
      rfl
    refine awp_skip ?_
    refine then_n ?_
    refine awp_seq ?_
    refine awp_block ?_
    refine awp_region_k (fun _ => false) (by rw [hB]; rfl) fun K hK base hbase hfr => tr_run ?_
    simp (disch := omega) only [go_sem, ↓reduceIte, za, zb, zc, zd, ze, zf, zg, zh, zi, zj, zk, zl, zm, zn, zo, dec_t, dec_f, ltI, leI, leN, le63, le40, le0, wrap64_id, wrapu64_id, wrap8_id]
    refine tr_nil (hK _ _ _ ?_)
    clear hK K hbase hfr base
    refine awp_region_e (fun _ => false) (by rw [hB]; rfl) fun K hK base hbase hfr => ?_
    refine tr_op rfl (by simp (disch := omega) only [go_sem, ↓reduceIte, za, zb, zc, zd, ze, zf, zg, zh, zi, zj, zk, zl, zm, zn, zo, hoff, hsh, hcs, dec_t, dec_f, ltI, leI, leN, le63, le40, le0, wrap64_id, wrapu64_id, wrap8_id] <;> rfl) ?_
    refine tr_op rfl (by simp (disch := omega) only [go_sem, ↓reduceIte, za, zb, zc, zd, ze, zf, zg, zh, zi, zj, zk, zl, zm, zn, zo, hoff, hsh, hcs, dec_t, dec_f, ltI, leI, leN, le63, le40, le0, wrap64_id, wrapu64_id, wrap8_id] <;> rfl) ?_
    refine tr_op rfl (by simp (disch := omega) only [go_sem, ↓reduceIte, za, zb, zc, zd, ze, zf, zg, zh, zi, zj, zk, zl, zm, zn, zo, hoff, hsh, hcs, dec_t, dec_f, ltI, leI, leN, le63, le40, le0, wrap64_id, wrapu64_id, wrap8_id] <;> rfl) ?_
    refine tr_op rfl (by simp (disch := omega) only [go_sem, ↓reduceIte, za, zb, zc, zd, ze, zf, zg, zh, zi, zj, zk, zl, zm, zn, zo, hoff, hsh, hcs, dec_t, dec_f, ltI, leI, leN, le63, le40, le0, wrap64_id, wrapu64_id, wrap8_id] <;> rfl) ?_
    refine tr_op rfl (by simp (disch := omega) only [go_sem, ↓reduceIte, za, zb, zc, zd, ze, zf, zg, zh, zi, zj, zk, zl, zm, zn, zo, hoff, hsh, hcs, dec_t, dec_f, ltI, leI, leN, le63, le40, le0, wrap64_id, wrapu64_id, wrap8_id] <;> rfl) ?_
    refine tr_op rfl (by simp (disch := omega) only [go_sem, ↓reduceIte, za, zb, zc, zd, ze, zf, zg, zh, zi, zj, zk, zl, zm, zn, zo, hoff, hsh, hcs, dec_t, dec_f, ltI, leI, leN, le63, le40, le0, wrap64_id, wrapu64_id, wrap8_id] <;> rfl) ?_
    refine tr_op rfl (by simp (disch := omega) only [go_sem, ↓reduceIte, za, zb, zc, zd, ze, zf, zg, zh, zi, zj, zk, zl, zm, zn, zo, hoff, hsh, hcs, dec_t, dec_f, ltI, leI, leN, le63, le40, le0, wrap64_id, wrapu64_id, wrap8_id] <;> rfl) ?_
    refine tr_op rfl (by simp (disch := omega) only [go_sem, ↓reduceIte, za, zb, zc, zd, ze, zf, zg, zh, zi, zj, zk, zl, zm, zn, zo, hoff, hsh, hcs, dec_t, dec_f, ltI, leI, leN, le63, le40, le0, wrap64_id, wrapu64_id, wrap8_id] <;> rfl) ?_
    refine tr_op rfl (by simp (disch := omega) only [go_sem, ↓reduceIte, za, zb, zc, zd, ze, zf, zg, zh, zi, zj, zk, zl, zm, zn, zo, hoff, hsh, hcs, dec_t, dec_f, ltI, leI, leN, le63, le40, le0, wrap64_id, wrapu64_id, wrap8_id] <;> rfl) ?_
    refine tr_op rfl (by simp (disch := omega) only [go_sem, ↓reduceIte, za, zb, zc, zd, ze, zf, zg, zh, zi, zj, zk, zl, zm, zn, zo, hoff, hsh, hcs, dec_t, dec_f, ltI, leI, leN, le63, le40, le0, wrap64_id, wrapu64_id, wrap8_id] <;> rfl) ?_
    refine tr_op rfl (by simp (disch := omega) only [go_sem, ↓reduceIte, za, zb, zc, zd, ze, zf, zg, zh, zi, zj, zk, zl, zm, zn, zo, hoff, hsh, hcs, dec_t, dec_f, ltI, leI, leN, le63, le40, le0, wrap64_id, wrapu64_id, wrap8_id] <;> rfl) ?_
    refine tr_op rfl (by simp (disch := omega) only [go_sem, ↓reduceIte, za, zb, zc, zd, ze, zf, zg, zh, zi, zj, zk, zl, zm, zn, zo, hoff, hsh, hcs, dec_t, dec_f, ltI, leI, leN, le63, le40, le0, wrap64_id, wrapu64_id, wrap8_id] <;> rfl) ?_
    refine tr_op rfl (by simp (disch := omega) only [go_sem, ↓reduceIte, za, zb, zc, zd, ze, zf, zg, zh, zi, zj, zk, zl, zm, zn, zo, hoff, hsh, hcs, dec_t, dec_f, ltI, leI, leN, le63, le40, le0, wrap64_id, wrapu64_id, wrap8_id] <;> rfl) ?_
    refine tr_op0 rfl (by simp (disch := omega) only [go_sem, ↓reduceIte, za, zb, zc, zd, ze, zf, zg, zh, zi, zj, zk, zl, zm, zn, zo, hoff, hsh, hcs, dec_t, dec_f, ltI, leI, leN, le63, le40, le0, wrap64_id, wrapu64_id, wrap8_id] <;> rfl) ?_
    refine tr_end (hK _ _ _ ?_)
    clear hK K hbase hfr base
    refine block_n ?_
    refine then_n ?_
    refine awp_region_e (fun _ => false) (by rw [hB]; rfl) fun K hK base hbase hfr => tr_run ?_
    simp (disch := omega) only [go_sem, ↓reduceIte, za, zb, zc, zd, ze, zf, zg, zh, zi, zj, zk, zl, zm, zn, zo, dec_t, dec_f, ltI, leI, leN, le63, le40, le0, wrap64_id, wrapu64_id, wrap8_id]
    refine tr_nil (hK _ _ _ ?_)
    clear hK K hbase hfr base
    refine then_n ⟨i + 1, ?_, ?_, ?_, ?_, Sh.sub_refl _⟩
    · show i + 1 ≤ digs m; omega
    · show digs m - (i + 1) < digs m - i; omega
    · exact Env.subW_one rfl <| Env.subW_one rfl <| Env.subW_one rfl <| Env.subW_one rfl <| Env.subW_one rfl <| Env.subW_nil _
    · exact Boxes.subW_nil _
  · try simp only [yb, yc, yd, ye, yf, yg, yh, yi, yj, yk, yl, ym, yn, yo] at h1
    refine awp_exit ?_
    refine then_x ?_
    refine then_x ?_
    refine block_x ?_
    refine then_n ?_
    have ei : i = digs m := by omega
    subst ei
    have ec : u8s (List.replicate (digs m - digs m) 0 ++ dg m (digs m)) = u8s (dg (m / 128) (digs m - 1)) ++ [AV.int .u8 ((128 + m % 128 : Nat) : Int)] := by
      have e2 : digs m = (digs m - 1) + 1 := by omega
      rw [Nat.sub_self, List.replicate_zero, List.nil_append]
      conv => lhs; rw [e2, dg_succ]
      rw [u8s_append]; rfl
    rw [ec]
    have hlen : (u8s (dg (m / 128) (digs m - 1))).length = digs m - 1 := by rw [u8s_length, dg_length]
    have hk1 : ((digs m : Int) - 1).toNat = digs m - 1 := by omega
    have hdrop : ∀ y : AV, List.drop (digs m - 1) (u8s (dg (m / 128) (digs m - 1)) ++ [y]) = [y] := fun y => by rw [List.drop_append_of_le_length (by omega), List.drop_eq_nil_of_le (by omega)]; rfl
    have htake : ∀ y : AV, List.take (digs m - 1) (u8s (dg (m / 128) (digs m - 1)) ++ [y]) = u8s (dg (m / 128) (digs m - 1)) := fun y => by rw [List.take_append_of_le_length (by omega), List.take_of_length_le (by omega)]
    have hdrop2 : ∀ y : AV, List.drop (digs m - 1 + 1) (u8s (dg (m / 128) (digs m - 1)) ++ [y]) = [] := fun y => List.drop_eq_nil_of_le (by simp only [List.length_append, List.length_cons, List.length_nil]; omega)
    refine awp_region_k (fun _ => false) (by rw [hB]; rfl) fun K hK base hbase hfr => tr_run ?_
    simp (disch := omega) only [go_sem, ↓reduceIte, za, zb, zc, zd, ze, zf, zg, zh, zi, zj, zk, zl, zm, zn, zo, hk1, hdrop, htake, hdrop2, hlen, last8, dec_t, dec_f, ltI, leI, leN, le63, le40, le0, wrap64_id, wrapu64_id, wrap8_id]
    refine tr_nil (hK _ _ _ ?_)
    clear hK K hbase hfr base
    refine awp_freeze 4 oid (digs m) (es := u8s (dg (m / 128) (digs m - 1) ++ [m % 128])) (m := 1) rfl (setOb_same _ _ _) ?_ ?_ ?_ ?_ ?_
    · rw [← flat_one (fun x hx => by simp only [u8s, List.mem_map] at hx; obtain ⟨y, _, rfl⟩ := hx; rfl), u8s_append]; rfl
    · simp only [u8s_length, List.length_append, dg_length, List.length_cons, List.length_nil]; omega
    · intro x hx; simp only [u8s, List.mem_map] at hx; obtain ⟨y, _, rfl⟩ := hx; rfl
    · simp only [maxLen]; omega
    refine awp_region_k (fun _ => false) (by rw [hB]; rfl) fun K hK base hbase hfr => tr_run ?_
    simp (disch := omega) only [go_sem, ↓reduceIte, za, zb, zc, zd, ze, zf, zg, zh, zi, zj, zk, zl, zm, zn, zo, dec_t, dec_f, ltI, leI, leN, le63, le40, le0, wrap64_id, wrapu64_id, wrap8_id]
    refine tr_nil (hK _ _ _ ?_)
    clear hK K hbase hfr base
    refine awp_ret ?_
    refine ⟨_, rfl, ?_, fun i o h => by have : i ≠ oid := (fun e => by subst e; rw [hid] at h; cases h); simp [Sh.delOb, Sh.setOb, this, h], fun _ h => h⟩
    rw [show numI (m : Int) = num m from rfl, num_dg hm]; exact VW.refl _
end Go.Am
namespace Go.Am
open Go
open Nat renaming reduceEqDiff → za, reduceAdd → zb, reduceMul → zc, reducePow → zd, reduceLeDiff → ze, reduceSub → zf, reduceBEq → zg, reduceBNe → zh, reduceDiv → zi, reduceMod → zj
open Int renaming reduceLT → zk, reduceLE → zl, reduceEq → zm, reduceNe → zn, reduceToNat → zo
theorem c54 (n : Int) (hn : I63 n) : PCalls Go.Proofs.Tryz.prog 54 [.int .i64 n] (.str (numI n)) := by
  unfold I63 at hn
  have e : numI (max n 0) = numI n := by unfold numI; rw [show (max n 0).toNat = n.toNat by omega]
  refine pcalls_of_awp Go.Proofs.Tryz.func54 rfl (by decide) (Nat.le_of_ble_eq_true rfl) ?_
  intro B σ hB ho hob
  refine awp_region_k (fun _ => false) (by rw [hB]; rfl) fun K hK base hbase hfr => tr_run ?_
  simp (disch := omega) only [go_sem, ↓reduceIte, za, zb, zc, zd, ze, zf, zg, zh, zi, zj, zk, zl, zm, zn, zo, dec_t, dec_f, ltI, leI, leN, le63, le40, le0, wrap64_id, wrapu64_id, wrap8_id]
  refine tr_nil (hK _ _ _ ?_)
  clear hK K hbase hfr base
  refine awp_region_k (fun _ => false) (by rw [hB]; rfl) fun K hK base hbase hfr => tr_run ?_
  simp (disch := omega) only [go_sem, ↓reduceIte, za, zb, zc, zd, ze, zf, zg, zh, zi, zj, zk, zl, zm, zn, zo, dec_t, dec_f, ltI, leI, leN, le63, le40, le0, wrap64_id, wrapu64_id, wrap8_id]
  refine tr_pc (by rfl) (by simp only [go_sem, ↓reduceIte, za, zb, zc, zd, ze, zf, zg, zh, zi, zj, zk, zl, zm, zn, zo] <;> rfl) (c117 _ (by omega) (by omega)) ?_
  simp (disch := omega) only [go_sem, ↓reduceIte, za, zb, zc, zd, ze, zf, zg, zh, zi, zj, zk, zl, zm, zn, zo, dec_t, dec_f, ltI, leI, leN, le63, le40, le0, wrap64_id, wrapu64_id, wrap8_id]
  refine tr_nil (hK _ _ _ ?_)
  clear hK K hbase hfr base
  refine awp_ret ?_
  refine ⟨_, rfl, ?_, fun _ _ h => h, fun _ h => h⟩
  rw [e]; exact VW.refl _
theorem c122 (s : List UInt8) (hs : s.length ≤ 9223372036854775797) : PCalls Go.Proofs.Tryz.prog 122 [.str s] (.str (text s)) := by
  have hl := numI_le (n := (s.length : Int)) (by omega)
  refine pcalls_of_awp Go.Proofs.Tryz.func122 rfl (by decide) (Nat.le_of_ble_eq_true rfl) ?_
  intro B σ hB ho hob
  refine awp_region_k (fun _ => false) (by rw [hB]; rfl) fun K hK base hbase hfr => tr_run ?_
  simp (disch := omega) only [go_sem, ↓reduceIte, za, zb, zc, zd, ze, zf, zg, zh, zi, zj, zk, zl, zm, zn, zo, dec_t, dec_f, ltI, leI, leN, le63, le40, le0, wrap64_id, wrapu64_id, wrap8_id]
  refine tr_nil (hK _ _ _ ?_)
  clear hK K hbase hfr base
  refine awp_region_k (fun _ => false) (by rw [hB]; rfl) fun K hK base hbase hfr => tr_run ?_
  simp (disch := omega) only [go_sem, ↓reduceIte, za, zb, zc, zd, ze, zf, zg, zh, zi, zj, zk, zl, zm, zn, zo, dec_t, dec_f, ltI, leI, leN, le63, le40, le0, wrap64_id, wrapu64_id, wrap8_id]
  refine tr_pc (by rfl) (by simp only [go_sem, ↓reduceIte, za, zb, zc, zd, ze, zf, zg, zh, zi, zj, zk, zl, zm, zn, zo] <;> rfl) (c117 _ (by omega) (by omega)) ?_
  simp (disch := omega) only [go_sem, ↓reduceIte, za, zb, zc, zd, ze, zf, zg, zh, zi, zj, zk, zl, zm, zn, zo, dec_t, dec_f, ltI, leI, leN, le63, le40, le0, wrap64_id, wrapu64_id, wrap8_id]
  refine tr_nil (hK _ _ _ ?_)
  clear hK K hbase hfr base
  refine awp_ret ?_
  refine ⟨_, rfl, ?_, fun _ _ h => h, fun _ h => h⟩
  exact VW.refl _
theorem c121 (d : Int × Int) (hd : D63 d) : PCalls Go.Proofs.Tryz.prog 121 [dot d] (.str (dBytes d)) := by
  have h1 := numI_le hd.1; have h2 := numI_le hd.2
  refine pcalls_of_awp Go.Proofs.Tryz.func121 rfl (by decide) (Nat.le_of_ble_eq_true rfl) ?_
  intro B σ hB ho hob
  refine awp_region_k (fun _ => false) (by rw [hB]; rfl) fun K hK base hbase hfr => tr_run ?_
  simp (disch := omega) only [go_sem, ↓reduceIte, za, zb, zc, zd, ze, zf, zg, zh, zi, zj, zk, zl, zm, zn, zo, dec_t, dec_f, ltI, leI, leN, le63, le40, le0, wrap64_id, wrapu64_id, wrap8_id]
  refine tr_nil (hK _ _ _ ?_)
  clear hK K hbase hfr base
  refine awp_drawn_k (fun f => f == 54) (fun _ => false) (by kernel_rfl) (by decide) (by rw [hB]; rfl) fun K hK base hbase hfr => trd_run ?_
  simp (disch := omega) only [go_sem, ↓reduceIte, za, zb, zc, zd, ze, zf, zg, zh, zi, zj, zk, zl, zm, zn, zo, dec_t, dec_f, ltI, leI, leN, le63, le40, le0, wrap64_id, wrapu64_id, wrap8_id]
  refine trd_pc (by kernel_rfl) (by rfl) (by simp only [go_sem, ↓reduceIte, za, zb, zc, zd, ze, zf, zg, zh, zi, zj, zk, zl, zm, zn, zo] <;> rfl) (c54 _ hd.1) ?_
  simp (disch := omega) only [go_sem, ↓reduceIte, za, zb, zc, zd, ze, zf, zg, zh, zi, zj, zk, zl, zm, zn, zo, dec_t, dec_f, ltI, leI, leN, le63, le40, le0, wrap64_id, wrapu64_id, wrap8_id]
  refine trd_pc (by kernel_rfl) (by rfl) (by simp only [go_sem, ↓reduceIte, za, zb, zc, zd, ze, zf, zg, zh, zi, zj, zk, zl, zm, zn, zo] <;> rfl) (c54 _ hd.2) ?_
  simp (disch := omega) only [go_sem, ↓reduceIte, za, zb, zc, zd, ze, zf, zg, zh, zi, zj, zk, zl, zm, zn, zo, dec_t, dec_f, ltI, leI, leN, le63, le40, le0, wrap64_id, wrapu64_id, wrap8_id]
  refine trd_nil (hK _ _ _ ?_)
  clear hK K hbase hfr base
  refine awp_ret ?_
  refine ⟨_, rfl, ?_, fun _ _ h => h, fun _ h => h⟩
  exact VW.refl _
theorem c167 (l : List (Int × Int)) (tg : Tag) (hl : l.length ≤ 9223372036854775807) (hd : ∀ d ∈ l, D63 d) (hT : (rowB l).length ≤ 9223372036854775807) : PCalls Go.Proofs.Tryz.prog 167 [dots l tg] (.str (rowB l)) := by
  refine pcalls_of_awp Go.Proofs.Tryz.func167 rfl (by decide) (Nat.le_of_ble_eq_true rfl) ?_
  intro B σ hB ho hob
  refine awp_region_k (fun _ => false) (by rw [hB]; rfl) fun K hK base hbase hfr => tr_run ?_
  simp (disch := omega) only [go_sem, ↓reduceIte, za, zb, zc, zd, ze, zf, zg, zh, zi, zj, zk, zl, zm, zn, zo, dec_t, dec_f, ltI, leI, leN, le63, le40, le0, wrap64_id, wrapu64_id, wrap8_id]
  refine tr_nil (hK _ _ _ ?_)
  clear hK K hbase hfr base
  refine awp_region_k (fun _ => false) (by rw [hB]; rfl) fun K hK base hbase hfr => tr_run ?_
  simp (disch := omega) only [go_sem, ↓reduceIte, za, zb, zc, zd, ze, zf, zg, zh, zi, zj, zk, zl, zm, zn, zo, dec_t, dec_f, ltI, leI, leN, le63, le40, le0, wrap64_id, wrapu64_id, wrap8_id]
  refine tr_pc (by rfl) (by simp only [go_sem, ↓reduceIte, za, zb, zc, zd, ze, zf, zg, zh, zi, zj, zk, zl, zm, zn, zo] <;> rfl) (c54 _ (by unfold I63; omega)) ?_
  simp (disch := omega) only [go_sem, ↓reduceIte, za, zb, zc, zd, ze, zf, zg, zh, zi, zj, zk, zl, zm, zn, zo, dec_t, dec_f, ltI, leI, leN, le63, le40, le0, wrap64_id, wrapu64_id, wrap8_id]
  refine tr_nil (hK _ _ _ ?_)
  clear hK K hbase hfr base
  refine awp_seq ?_
  refine awp_region_k (fun _ => false) (by rw [hB]; rfl) fun K hK base hbase hfr => tr_run ?_
  simp (disch := omega) only [go_sem, ↓reduceIte, za, zb, zc, zd, ze, zf, zg, zh, zi, zj, zk, zl, zm, zn, zo, dec_t, dec_f, ltI, leI, leN, le63, le40, le0, wrap64_id, wrapu64_id, wrap8_id]
  refine tr_nil (hK _ _ _ ?_)
  clear hK K hbase hfr base
  refine awp_block ?_
  refine awp_loop_w (α := Nat × List UInt8) (fun x => x.2 ++ (l.drop x.1).flatMap dBytes = rowB l) (fun x => [(9, dots l tg), (10, .int .i64 l.length), (11, .int .i64 x.1), (3, .str x.2)]) (fun x => []) (fun x => σ) (fun x => l.length - x.1) (0, numI l.length) ?_ ?_ (Boxes.subW_nil _) (Sh.sub_refl _) ?_
  · exact rfl
  · exact Env.subW_one rfl <| Env.subW_one rfl <| Env.subW_one rfl <| Env.subW_one rfl <| Env.subW_nil _
  rintro ⟨i, s⟩ h0
  dsimp only at h0
  refine awp_region_k (fun _ => false) (by rw [hB]; rfl) fun K hK base hbase hfr => tr_run ?_
  simp (disch := omega) only [go_sem, ↓reduceIte, za, zb, zc, zd, ze, zf, zg, zh, zi, zj, zk, zl, zm, zn, zo, dec_t, dec_f, ltI, leI, leN, le63, le40, le0, wrap64_id, wrapu64_id, wrap8_id]
  refine tr_nil (hK _ _ _ ?_)
  clear hK K hbase hfr base
  refine awp_seq ?_
  refine awp_cond (rfl) (fun h1 => ?_) (fun h1 => ?_)
  · try simp only [yb, yc, yd, ye, yf, yg, yh, yi, yj, yk, yl, ym, yn, yo] at h1
    obtain ⟨x, hx, hm, hi⟩ := get_of_lt h1
    have hs := acc_step hx h0
    have hs2 := hs.2
    refine awp_skip ?_
    refine then_n ?_
    refine awp_seq ?_
    refine awp_block ?_
    refine awp_region_k (fun _ => false) (by rw [hB]; rfl) fun K hK base hbase hfr => tr_run ?_
    simp (disch := omega) only [go_sem, ↓reduceIte, za, zb, zc, zd, ze, zf, zg, zh, zi, zj, zk, zl, zm, zn, zo, hx, dec_t, dec_f, ltI, leI, leN, le63, le40, le0, wrap64_id, wrapu64_id, wrap8_id]
    refine tr_nil (hK _ _ _ ?_)
    clear hK K hbase hfr base
    refine awp_region_e (fun _ => false) (by rw [hB]; rfl) fun K hK base hbase hfr => tr_run ?_
    simp (disch := omega) only [go_sem, ↓reduceIte, za, zb, zc, zd, ze, zf, zg, zh, zi, zj, zk, zl, zm, zn, zo, dec_t, dec_f, ltI, leI, leN, le63, le40, le0, wrap64_id, wrapu64_id, wrap8_id]
    refine tr_pc (by rfl) (by simp only [go_sem, ↓reduceIte, za, zb, zc, zd, ze, zf, zg, zh, zi, zj, zk, zl, zm, zn, zo] <;> rfl) (c121 _ (hd _ hm)) ?_
    simp (disch := omega) only [go_sem, ↓reduceIte, za, zb, zc, zd, ze, zf, zg, zh, zi, zj, zk, zl, zm, zn, zo, dec_t, dec_f, ltI, leI, leN, le63, le40, le0, wrap64_id, wrapu64_id, wrap8_id]
    refine tr_nil (hK _ _ _ ?_)
    clear hK K hbase hfr base
    refine block_n ?_
    refine then_n ?_
    refine awp_region_e (fun _ => false) (by rw [hB]; rfl) fun K hK base hbase hfr => tr_run ?_
    simp (disch := omega) only [go_sem, ↓reduceIte, za, zb, zc, zd, ze, zf, zg, zh, zi, zj, zk, zl, zm, zn, zo, dec_t, dec_f, ltI, leI, leN, le63, le40, le0, wrap64_id, wrapu64_id, wrap8_id]
    refine tr_nil (hK _ _ _ ?_)
    clear hK K hbase hfr base
    refine then_n ⟨(i + 1, s ++ dBytes x), ?_, ?_, ?_, ?_, Sh.sub_refl _⟩
    · exact hs.1
    · show l.length - (i + 1) < l.length - i; omega
    · exact Env.subW_one rfl <| Env.subW_one rfl <| Env.subW_one rfl <| Env.subW_one rfl <| Env.subW_nil _
    · exact Boxes.subW_nil _
  · try simp only [yb, yc, yd, ye, yf, yg, yh, yi, yj, yk, yl, ym, yn, yo] at h1
    refine awp_exit ?_
    refine then_x ?_
    refine then_x ?_
    refine block_x ?_
    refine then_n ?_
    refine awp_region_k (fun _ => false) (by rw [hB]; rfl) fun K hK base hbase hfr => tr_run ?_
    simp (disch := omega) only [go_sem, ↓reduceIte, za, zb, zc, zd, ze, zf, zg, zh, zi, zj, zk, zl, zm, zn, zo, dec_t, dec_f, ltI, leI, leN, le63, le40, le0, wrap64_id, wrapu64_id, wrap8_id]
    refine tr_nil (hK _ _ _ ?_)
    clear hK K hbase hfr base
    refine awp_ret ?_
    refine ⟨_, rfl, ?_, fun _ _ h => h, fun _ h => h⟩
    rw [acc_end (by omega) h0]; exact VW.refl _
theorem c120 (c : Ctx) (t1 t2 : Tag) (h1 : ∀ d ∈ c.base, D63 d) (h2 : ∀ d ∈ c.cloud, D63 d) (l1 : c.base.length ≤ 9223372036854775807) (l2 : c.cloud.length ≤ 9223372036854775807) (hT : (ctxB c).length ≤ 9223372036854775807) : PCalls Go.Proofs.Tryz.prog 120 [ctxV c t1 t2] (.str (ctxB c)) := by
  have hT2 : (rowB c.base).length + (rowB c.cloud).length ≤ 9223372036854775807 := by simpa only [ctxB, List.length_append] using hT
  refine pcalls_of_awp Go.Proofs.Tryz.func120 rfl (by decide) (Nat.le_of_ble_eq_true rfl) ?_
  intro B σ hB ho hob
  refine awp_region_k (fun _ => false) (by rw [hB]; rfl) fun K hK base hbase hfr => tr_run ?_
  simp (disch := omega) only [go_sem, ↓reduceIte, za, zb, zc, zd, ze, zf, zg, zh, zi, zj, zk, zl, zm, zn, zo, dec_t, dec_f, ltI, leI, leN, le63, le40, le0, wrap64_id, wrapu64_id, wrap8_id]
  refine tr_nil (hK _ _ _ ?_)
  clear hK K hbase hfr base
  refine awp_drawn_k (fun f => f == 167) (fun _ => false) (by kernel_rfl) (by decide) (by rw [hB]; rfl) fun K hK base hbase hfr => trd_run ?_
  simp (disch := omega) only [go_sem, ↓reduceIte, za, zb, zc, zd, ze, zf, zg, zh, zi, zj, zk, zl, zm, zn, zo, dec_t, dec_f, ltI, leI, leN, le63, le40, le0, wrap64_id, wrapu64_id, wrap8_id]
  refine trd_pc (by kernel_rfl) (by rfl) (by simp only [go_sem, ↓reduceIte, za, zb, zc, zd, ze, zf, zg, zh, zi, zj, zk, zl, zm, zn, zo] <;> rfl) (c167 c.base t1 l1 h1 (by omega)) ?_
  simp (disch := omega) only [go_sem, ↓reduceIte, za, zb, zc, zd, ze, zf, zg, zh, zi, zj, zk, zl, zm, zn, zo, dec_t, dec_f, ltI, leI, leN, le63, le40, le0, wrap64_id, wrapu64_id, wrap8_id]
  refine trd_pc (by kernel_rfl) (by rfl) (by simp only [go_sem, ↓reduceIte, za, zb, zc, zd, ze, zf, zg, zh, zi, zj, zk, zl, zm, zn, zo] <;> rfl) (c167 c.cloud t2 l2 h2 (by omega)) ?_
  simp (disch := omega) only [go_sem, ↓reduceIte, za, zb, zc, zd, ze, zf, zg, zh, zi, zj, zk, zl, zm, zn, zo, dec_t, dec_f, ltI, leI, leN, le63, le40, le0, wrap64_id, wrapu64_id, wrap8_id]
  refine trd_nil (hK _ _ _ ?_)
  clear hK K hbase hfr base
  refine awp_ret ?_
  refine ⟨_, rfl, ?_, fun _ _ h => h, fun _ h => h⟩
  exact VW.refl _
theorem c58 (l : List Tg) (tg : Tag) (hl : l.length ≤ 9223372036854775807) (hd : ∀ d ∈ l, d.s.length ≤ 1099511627776 ∧ I63 d.n) (hT : (tgsB l).length ≤ 9223372036854775807) : PCalls Go.Proofs.Tryz.prog 58 [.list (l.map tgV) tg] (.str (tgsB l)) := by
  refine pcalls_of_awp Go.Proofs.Tryz.func58 rfl (by decide) (Nat.le_of_ble_eq_true rfl) ?_
  intro B σ hB ho hob
  refine awp_region_k (fun _ => false) (by rw [hB]; rfl) fun K hK base hbase hfr => tr_run ?_
  simp (disch := omega) only [go_sem, ↓reduceIte, za, zb, zc, zd, ze, zf, zg, zh, zi, zj, zk, zl, zm, zn, zo, dec_t, dec_f, ltI, leI, leN, le63, le40, le0, wrap64_id, wrapu64_id, wrap8_id]
  refine tr_nil (hK _ _ _ ?_)
  clear hK K hbase hfr base
  refine awp_region_k (fun _ => false) (by rw [hB]; rfl) fun K hK base hbase hfr => tr_run ?_
  simp (disch := omega) only [go_sem, ↓reduceIte, za, zb, zc, zd, ze, zf, zg, zh, zi, zj, zk, zl, zm, zn, zo, dec_t, dec_f, ltI, leI, leN, le63, le40, le0, wrap64_id, wrapu64_id, wrap8_id]
  refine tr_pc (by rfl) (by simp only [go_sem, ↓reduceIte, za, zb, zc, zd, ze, zf, zg, zh, zi, zj, zk, zl, zm, zn, zo] <;> rfl) (c54 _ (by unfold I63; omega)) ?_
  simp (disch := omega) only [go_sem, ↓reduceIte, za, zb, zc, zd, ze, zf, zg, zh, zi, zj, zk, zl, zm, zn, zo, dec_t, dec_f, ltI, leI, leN, le63, le40, le0, wrap64_id, wrapu64_id, wrap8_id]
  refine tr_nil (hK _ _ _ ?_)
  clear hK K hbase hfr base
  refine awp_seq ?_
  refine awp_region_k (fun _ => false) (by rw [hB]; rfl) fun K hK base hbase hfr => tr_run ?_
  simp (disch := omega) only [go_sem, ↓reduceIte, za, zb, zc, zd, ze, zf, zg, zh, zi, zj, zk, zl, zm, zn, zo, dec_t, dec_f, ltI, leI, leN, le63, le40, le0, wrap64_id, wrapu64_id, wrap8_id]
  refine tr_nil (hK _ _ _ ?_)
  clear hK K hbase hfr base
  refine awp_block ?_
  refine awp_loop_w (α := Nat × List UInt8) (fun x => x.2 ++ (l.drop x.1).flatMap tBytes = tgsB l) (fun x => [(9, .list (l.map tgV) tg), (10, .int .i64 l.length), (11, .int .i64 x.1), (3, .str x.2)]) (fun x => []) (fun x => σ) (fun x => l.length - x.1) (0, numI l.length) ?_ ?_ (Boxes.subW_nil _) (Sh.sub_refl _) ?_
  · exact rfl
  · exact Env.subW_one rfl <| Env.subW_one rfl <| Env.subW_one rfl <| Env.subW_one rfl <| Env.subW_nil _
  rintro ⟨i, s⟩ h0
  dsimp only at h0
  refine awp_region_k (fun _ => false) (by rw [hB]; rfl) fun K hK base hbase hfr => tr_run ?_
  simp (disch := omega) only [go_sem, ↓reduceIte, za, zb, zc, zd, ze, zf, zg, zh, zi, zj, zk, zl, zm, zn, zo, dec_t, dec_f, ltI, leI, leN, le63, le40, le0, wrap64_id, wrapu64_id, wrap8_id]
  refine tr_nil (hK _ _ _ ?_)
  clear hK K hbase hfr base
  refine awp_seq ?_
  refine awp_cond (rfl) (fun h1 => ?_) (fun h1 => ?_)
  · try simp only [yb, yc, yd, ye, yf, yg, yh, yi, yj, yk, yl, ym, yn, yo] at h1
    obtain ⟨x, hx, hm, hi⟩ := get_of_lt h1
    have hs := acc_step hx h0
    have hs2 := hs.2
    simp only [tBytes, List.length_append] at hs2
    refine awp_skip ?_
    refine then_n ?_
    refine awp_seq ?_
    refine awp_block ?_
    refine awp_region_k (fun _ => false) (by rw [hB]; rfl) fun K hK base hbase hfr => tr_run ?_
    simp (disch := omega) only [go_sem, ↓reduceIte, za, zb, zc, zd, ze, zf, zg, zh, zi, zj, zk, zl, zm, zn, zo, hx, dec_t, dec_f, ltI, leI, leN, le63, le40, le0, wrap64_id, wrapu64_id, wrap8_id]
    refine tr_nil (hK _ _ _ ?_)
    clear hK K hbase hfr base
    refine awp_drawn_e (fun f => f == 54 || f == 122) (fun _ => false) (QI_block (QI_then KI_awp (QI_loopw (QI_block (QI_then KI_awp QI_endsP))))) (by kernel_rfl) (by decide) (by rw [hB]; rfl) fun K hK base hbase hfr => trd_run ?_
    simp (disch := omega) only [go_sem, ↓reduceIte, za, zb, zc, zd, ze, zf, zg, zh, zi, zj, zk, zl, zm, zn, zo, dec_t, dec_f, ltI, leI, leN, le63, le40, le0, wrap64_id, wrapu64_id, wrap8_id]
    refine trd_pc (by kernel_rfl) (by rfl) (by simp only [go_sem, ↓reduceIte, za, zb, zc, zd, ze, zf, zg, zh, zi, zj, zk, zl, zm, zn, zo] <;> rfl) (c122 _ (by have := (hd _ hm).1; omega)) ?_
    simp (disch := omega) only [go_sem, ↓reduceIte, za, zb, zc, zd, ze, zf, zg, zh, zi, zj, zk, zl, zm, zn, zo, dec_t, dec_f, ltI, leI, leN, le63, le40, le0, wrap64_id, wrapu64_id, wrap8_id]
    refine trd_pc (by kernel_rfl) (by rfl) (by simp only [go_sem, ↓reduceIte, za, zb, zc, zd, ze, zf, zg, zh, zi, zj, zk, zl, zm, zn, zo] <;> rfl) (c54 _ (hd _ hm).2) ?_
    simp (disch := omega) only [go_sem, ↓reduceIte, za, zb, zc, zd, ze, zf, zg, zh, zi, zj, zk, zl, zm, zn, zo, dec_t, dec_f, ltI, leI, leN, le63, le40, le0, wrap64_id, wrapu64_id, wrap8_id]
    refine trd_nil (hK _ _ _ ?_)
    clear hK K hbase hfr base
    refine block_n ?_
    refine then_n ?_
    refine awp_region_e (fun _ => false) (by rw [hB]; rfl) fun K hK base hbase hfr => tr_run ?_
    simp (disch := omega) only [go_sem, ↓reduceIte, za, zb, zc, zd, ze, zf, zg, zh, zi, zj, zk, zl, zm, zn, zo, dec_t, dec_f, ltI, leI, leN, le63, le40, le0, wrap64_id, wrapu64_id, wrap8_id]
    refine tr_nil (hK _ _ _ ?_)
    clear hK K hbase hfr base
    refine then_n ⟨(i + 1, s ++ (text x.s ++ numI x.n)), ?_, ?_, ?_, ?_, Sh.sub_refl _⟩
    · exact hs.1
    · show l.length - (i + 1) < l.length - i; omega
    · exact Env.subW_one rfl <| Env.subW_one rfl <| Env.subW_one rfl <| Env.subW_one rfl <| Env.subW_nil _
    · exact Boxes.subW_nil _
  · try simp only [yb, yc, yd, ye, yf, yg, yh, yi, yj, yk, yl, ym, yn, yo] at h1
    refine awp_exit ?_
    refine then_x ?_
    refine then_x ?_
    refine block_x ?_
    refine then_n ?_
    refine awp_region_k (fun _ => false) (by rw [hB]; rfl) fun K hK base hbase hfr => tr_run ?_
    simp (disch := omega) only [go_sem, ↓reduceIte, za, zb, zc, zd, ze, zf, zg, zh, zi, zj, zk, zl, zm, zn, zo, dec_t, dec_f, ltI, leI, leN, le63, le40, le0, wrap64_id, wrapu64_id, wrap8_id]
    refine tr_nil (hK _ _ _ ?_)
    clear hK K hbase hfr base
    refine awp_ret ?_
    refine ⟨_, rfl, ?_, fun _ _ h => h, fun _ h => h⟩
    rw [acc_end (by omega) h0]; exact VW.refl _
theorem c60 (l : List Peer) (tg : Tag) (hl : l.length ≤ 9223372036854775807) (hd : ∀ d ∈ l, I63 d.id ∧ I63 d.inc ∧ I63 d.st) (hT : (peersB l).length ≤ 9223372036854775807) : PCalls Go.Proofs.Tryz.prog 60 [.list (l.map peerV) tg] (.str (peersB l)) := by
  refine pcalls_of_awp Go.Proofs.Tryz.func60 rfl (by decide) (Nat.le_of_ble_eq_true rfl) ?_
  intro B σ hB ho hob
  refine awp_region_k (fun _ => false) (by rw [hB]; rfl) fun K hK base hbase hfr => tr_run ?_
  simp (disch := omega) only [go_sem, ↓reduceIte, za, zb, zc, zd, ze, zf, zg, zh, zi, zj, zk, zl, zm, zn, zo, dec_t, dec_f, ltI, leI, leN, le63, le40, le0, wrap64_id, wrapu64_id, wrap8_id]
  refine tr_nil (hK _ _ _ ?_)
  clear hK K hbase hfr base
  refine awp_region_k (fun _ => false) (by rw [hB]; rfl) fun K hK base hbase hfr => tr_run ?_
  simp (disch := omega) only [go_sem, ↓reduceIte, za, zb, zc, zd, ze, zf, zg, zh, zi, zj, zk, zl, zm, zn, zo, dec_t, dec_f, ltI, leI, leN, le63, le40, le0, wrap64_id, wrapu64_id, wrap8_id]
  refine tr_pc (by rfl) (by simp only [go_sem, ↓reduceIte, za, zb, zc, zd, ze, zf, zg, zh, zi, zj, zk, zl, zm, zn, zo] <;> rfl) (c54 _ (by unfold I63; omega)) ?_
  simp (disch := omega) only [go_sem, ↓reduceIte, za, zb, zc, zd, ze, zf, zg, zh, zi, zj, zk, zl, zm, zn, zo, dec_t, dec_f, ltI, leI, leN, le63, le40, le0, wrap64_id, wrapu64_id, wrap8_id]
  refine tr_nil (hK _ _ _ ?_)
  clear hK K hbase hfr base
  refine awp_seq ?_
  refine awp_region_k (fun _ => false) (by rw [hB]; rfl) fun K hK base hbase hfr => tr_run ?_
  simp (disch := omega) only [go_sem, ↓reduceIte, za, zb, zc, zd, ze, zf, zg, zh, zi, zj, zk, zl, zm, zn, zo, dec_t, dec_f, ltI, leI, leN, le63, le40, le0, wrap64_id, wrapu64_id, wrap8_id]
  refine tr_nil (hK _ _ _ ?_)
  clear hK K hbase hfr base
  refine awp_block ?_
  refine awp_loop_w (α := Nat × List UInt8) (fun x => x.2 ++ (l.drop x.1).flatMap pBytes = peersB l) (fun x => [(9, .list (l.map peerV) tg), (10, .int .i64 l.length), (11, .int .i64 x.1), (3, .str x.2)]) (fun x => []) (fun x => σ) (fun x => l.length - x.1) (0, numI l.length) ?_ ?_ (Boxes.subW_nil _) (Sh.sub_refl _) ?_
  · exact rfl
  · exact Env.subW_one rfl <| Env.subW_one rfl <| Env.subW_one rfl <| Env.subW_one rfl <| Env.subW_nil _
  rintro ⟨i, s⟩ h0
  dsimp only at h0
  refine awp_region_k (fun _ => false) (by rw [hB]; rfl) fun K hK base hbase hfr => tr_run ?_
  simp (disch := omega) only [go_sem, ↓reduceIte, za, zb, zc, zd, ze, zf, zg, zh, zi, zj, zk, zl, zm, zn, zo, dec_t, dec_f, ltI, leI, leN, le63, le40, le0, wrap64_id, wrapu64_id, wrap8_id]
  refine tr_nil (hK _ _ _ ?_)
  clear hK K hbase hfr base
  refine awp_seq ?_
  refine awp_cond (rfl) (fun h1 => ?_) (fun h1 => ?_)
  · try simp only [yb, yc, yd, ye, yf, yg, yh, yi, yj, yk, yl, ym, yn, yo] at h1
    obtain ⟨x, hx, hm, hi⟩ := get_of_lt h1
    have hs := acc_step hx h0
    have hs2 := hs.2
    simp only [pBytes, List.length_append] at hs2
    refine awp_skip ?_
    refine then_n ?_
    refine awp_seq ?_
    refine awp_block ?_
    refine awp_region_k (fun _ => false) (by rw [hB]; rfl) fun K hK base hbase hfr => tr_run ?_
    simp (disch := omega) only [go_sem, ↓reduceIte, za, zb, zc, zd, ze, zf, zg, zh, zi, zj, zk, zl, zm, zn, zo, hx, dec_t, dec_f, ltI, leI, leN, le63, le40, le0, wrap64_id, wrapu64_id, wrap8_id]
    refine tr_nil (hK _ _ _ ?_)
    clear hK K hbase hfr base
    refine awp_drawn_e (fun f => f == 54) (fun _ => false) (QI_block (QI_then KI_awp (QI_loopw (QI_block (QI_then KI_awp QI_endsP))))) (by kernel_rfl) (by decide) (by rw [hB]; rfl) fun K hK base hbase hfr => trd_run ?_
    simp (disch := omega) only [go_sem, ↓reduceIte, za, zb, zc, zd, ze, zf, zg, zh, zi, zj, zk, zl, zm, zn, zo, dec_t, dec_f, ltI, leI, leN, le63, le40, le0, wrap64_id, wrapu64_id, wrap8_id]
    refine trd_pc (by kernel_rfl) (by rfl) (by simp only [go_sem, ↓reduceIte, za, zb, zc, zd, ze, zf, zg, zh, zi, zj, zk, zl, zm, zn, zo] <;> rfl) (c54 _ (hd _ hm).1) ?_
    simp (disch := omega) only [go_sem, ↓reduceIte, za, zb, zc, zd, ze, zf, zg, zh, zi, zj, zk, zl, zm, zn, zo, dec_t, dec_f, ltI, leI, leN, le63, le40, le0, wrap64_id, wrapu64_id, wrap8_id]
    refine trd_pc (by kernel_rfl) (by rfl) (by simp only [go_sem, ↓reduceIte, za, zb, zc, zd, ze, zf, zg, zh, zi, zj, zk, zl, zm, zn, zo] <;> rfl) (c54 _ (hd _ hm).2.1) ?_
    simp (disch := omega) only [go_sem, ↓reduceIte, za, zb, zc, zd, ze, zf, zg, zh, zi, zj, zk, zl, zm, zn, zo, dec_t, dec_f, ltI, leI, leN, le63, le40, le0, wrap64_id, wrapu64_id, wrap8_id]
    refine trd_pc (by kernel_rfl) (by rfl) (by simp only [go_sem, ↓reduceIte, za, zb, zc, zd, ze, zf, zg, zh, zi, zj, zk, zl, zm, zn, zo] <;> rfl) (c54 _ (hd _ hm).2.2) ?_
    simp (disch := omega) only [go_sem, ↓reduceIte, za, zb, zc, zd, ze, zf, zg, zh, zi, zj, zk, zl, zm, zn, zo, dec_t, dec_f, ltI, leI, leN, le63, le40, le0, wrap64_id, wrapu64_id, wrap8_id]
    refine trd_nil (hK _ _ _ ?_)
    clear hK K hbase hfr base
    refine block_n ?_
    refine then_n ?_
    refine awp_region_e (fun _ => false) (by rw [hB]; rfl) fun K hK base hbase hfr => tr_run ?_
    simp (disch := omega) only [go_sem, ↓reduceIte, za, zb, zc, zd, ze, zf, zg, zh, zi, zj, zk, zl, zm, zn, zo, dec_t, dec_f, ltI, leI, leN, le63, le40, le0, wrap64_id, wrapu64_id, wrap8_id]
    refine tr_nil (hK _ _ _ ?_)
    clear hK K hbase hfr base
    refine then_n ⟨(i + 1, s ++ (numI x.id ++ numI x.inc ++ numI x.st)), ?_, ?_, ?_, ?_, Sh.sub_refl _⟩
    · exact hs.1
    · show l.length - (i + 1) < l.length - i; omega
    · exact Env.subW_one rfl <| Env.subW_one rfl <| Env.subW_one rfl <| Env.subW_one rfl <| Env.subW_nil _
    · exact Boxes.subW_nil _
  · try simp only [yb, yc, yd, ye, yf, yg, yh, yi, yj, yk, yl, ym, yn, yo] at h1
    refine awp_exit ?_
    refine then_x ?_
    refine then_x ?_
    refine block_x ?_
    refine then_n ?_
    refine awp_region_k (fun _ => false) (by rw [hB]; rfl) fun K hK base hbase hfr => tr_run ?_
    simp (disch := omega) only [go_sem, ↓reduceIte, za, zb, zc, zd, ze, zf, zg, zh, zi, zj, zk, zl, zm, zn, zo, dec_t, dec_f, ltI, leI, leN, le63, le40, le0, wrap64_id, wrapu64_id, wrap8_id]
    refine tr_nil (hK _ _ _ ?_)
    clear hK K hbase hfr base
    refine awp_ret ?_
    refine ⟨_, rfl, ?_, fun _ _ h => h, fun _ h => h⟩
    rw [acc_end (by omega) h0]; exact VW.refl _
theorem c62 (l : List Hold) (tg : Tag) (hl : l.length ≤ 9223372036854775807) (hd : ∀ d ∈ l, D63 d.d ∧ I63 d.r ∧ I63 d.u) (hT : (holdsB l).length ≤ 9223372036854775807) : PCalls Go.Proofs.Tryz.prog 62 [.list (l.map holdV) tg] (.str (holdsB l)) := by
  refine pcalls_of_awp Go.Proofs.Tryz.func62 rfl (by decide) (Nat.le_of_ble_eq_true rfl) ?_
  intro B σ hB ho hob
  refine awp_region_k (fun _ => false) (by rw [hB]; rfl) fun K hK base hbase hfr => tr_run ?_
  simp (disch := omega) only [go_sem, ↓reduceIte, za, zb, zc, zd, ze, zf, zg, zh, zi, zj, zk, zl, zm, zn, zo, dec_t, dec_f, ltI, leI, leN, le63, le40, le0, wrap64_id, wrapu64_id, wrap8_id]
  refine tr_nil (hK _ _ _ ?_)
  clear hK K hbase hfr base
  refine awp_region_k (fun _ => false) (by rw [hB]; rfl) fun K hK base hbase hfr => tr_run ?_
  simp (disch := omega) only [go_sem, ↓reduceIte, za, zb, zc, zd, ze, zf, zg, zh, zi, zj, zk, zl, zm, zn, zo, dec_t, dec_f, ltI, leI, leN, le63, le40, le0, wrap64_id, wrapu64_id, wrap8_id]
  refine tr_pc (by rfl) (by simp only [go_sem, ↓reduceIte, za, zb, zc, zd, ze, zf, zg, zh, zi, zj, zk, zl, zm, zn, zo] <;> rfl) (c54 _ (by unfold I63; omega)) ?_
  simp (disch := omega) only [go_sem, ↓reduceIte, za, zb, zc, zd, ze, zf, zg, zh, zi, zj, zk, zl, zm, zn, zo, dec_t, dec_f, ltI, leI, leN, le63, le40, le0, wrap64_id, wrapu64_id, wrap8_id]
  refine tr_nil (hK _ _ _ ?_)
  clear hK K hbase hfr base
  refine awp_seq ?_
  refine awp_region_k (fun _ => false) (by rw [hB]; rfl) fun K hK base hbase hfr => tr_run ?_
  simp (disch := omega) only [go_sem, ↓reduceIte, za, zb, zc, zd, ze, zf, zg, zh, zi, zj, zk, zl, zm, zn, zo, dec_t, dec_f, ltI, leI, leN, le63, le40, le0, wrap64_id, wrapu64_id, wrap8_id]
  refine tr_nil (hK _ _ _ ?_)
  clear hK K hbase hfr base
  refine awp_block ?_
  refine awp_loop_w (α := Nat × List UInt8) (fun x => x.2 ++ (l.drop x.1).flatMap hBytes = holdsB l) (fun x => [(9, .list (l.map holdV) tg), (10, .int .i64 l.length), (11, .int .i64 x.1), (3, .str x.2)]) (fun x => []) (fun x => σ) (fun x => l.length - x.1) (0, numI l.length) ?_ ?_ (Boxes.subW_nil _) (Sh.sub_refl _) ?_
  · exact rfl
  · exact Env.subW_one rfl <| Env.subW_one rfl <| Env.subW_one rfl <| Env.subW_one rfl <| Env.subW_nil _
  rintro ⟨i, s⟩ h0
  dsimp only at h0
  refine awp_region_k (fun _ => false) (by rw [hB]; rfl) fun K hK base hbase hfr => tr_run ?_
  simp (disch := omega) only [go_sem, ↓reduceIte, za, zb, zc, zd, ze, zf, zg, zh, zi, zj, zk, zl, zm, zn, zo, dec_t, dec_f, ltI, leI, leN, le63, le40, le0, wrap64_id, wrapu64_id, wrap8_id]
  refine tr_nil (hK _ _ _ ?_)
  clear hK K hbase hfr base
  refine awp_seq ?_
  refine awp_cond (rfl) (fun h1 => ?_) (fun h1 => ?_)
  · try simp only [yb, yc, yd, ye, yf, yg, yh, yi, yj, yk, yl, ym, yn, yo] at h1
    obtain ⟨x, hx, hm, hi⟩ := get_of_lt h1
    have hs := acc_step hx h0
    have hs2 := hs.2
    simp only [hBytes, List.length_append] at hs2
    refine awp_skip ?_
    refine then_n ?_
    refine awp_seq ?_
    refine awp_block ?_
    refine awp_region_k (fun _ => false) (by rw [hB]; rfl) fun K hK base hbase hfr => tr_run ?_
    simp (disch := omega) only [go_sem, ↓reduceIte, za, zb, zc, zd, ze, zf, zg, zh, zi, zj, zk, zl, zm, zn, zo, hx, dec_t, dec_f, ltI, leI, leN, le63, le40, le0, wrap64_id, wrapu64_id, wrap8_id]
    refine tr_nil (hK _ _ _ ?_)
    clear hK K hbase hfr base
    refine awp_drawn_e (fun f => f == 54 || f == 121) (fun _ => false) (QI_block (QI_then KI_awp (QI_loopw (QI_block (QI_then KI_awp QI_endsP))))) (by kernel_rfl) (by decide) (by rw [hB]; rfl) fun K hK base hbase hfr => trd_run ?_
    simp (disch := omega) only [go_sem, ↓reduceIte, za, zb, zc, zd, ze, zf, zg, zh, zi, zj, zk, zl, zm, zn, zo, dec_t, dec_f, ltI, leI, leN, le63, le40, le0, wrap64_id, wrapu64_id, wrap8_id]
    refine trd_pc (by kernel_rfl) (by rfl) (by simp only [go_sem, ↓reduceIte, za, zb, zc, zd, ze, zf, zg, zh, zi, zj, zk, zl, zm, zn, zo] <;> rfl) (c121 _ (hd _ hm).1) ?_
    simp (disch := omega) only [go_sem, ↓reduceIte, za, zb, zc, zd, ze, zf, zg, zh, zi, zj, zk, zl, zm, zn, zo, dec_t, dec_f, ltI, leI, leN, le63, le40, le0, wrap64_id, wrapu64_id, wrap8_id]
    refine trd_pc (by kernel_rfl) (by rfl) (by simp only [go_sem, ↓reduceIte, za, zb, zc, zd, ze, zf, zg, zh, zi, zj, zk, zl, zm, zn, zo] <;> rfl) (c54 _ (hd _ hm).2.1) ?_
    simp (disch := omega) only [go_sem, ↓reduceIte, za, zb, zc, zd, ze, zf, zg, zh, zi, zj, zk, zl, zm, zn, zo, dec_t, dec_f, ltI, leI, leN, le63, le40, le0, wrap64_id, wrapu64_id, wrap8_id]
    refine trd_pc (by kernel_rfl) (by rfl) (by simp only [go_sem, ↓reduceIte, za, zb, zc, zd, ze, zf, zg, zh, zi, zj, zk, zl, zm, zn, zo] <;> rfl) (c54 _ (hd _ hm).2.2) ?_
    simp (disch := omega) only [go_sem, ↓reduceIte, za, zb, zc, zd, ze, zf, zg, zh, zi, zj, zk, zl, zm, zn, zo, dec_t, dec_f, ltI, leI, leN, le63, le40, le0, wrap64_id, wrapu64_id, wrap8_id]
    refine trd_nil (hK _ _ _ ?_)
    clear hK K hbase hfr base
    refine block_n ?_
    refine then_n ?_
    refine awp_region_e (fun _ => false) (by rw [hB]; rfl) fun K hK base hbase hfr => tr_run ?_
    simp (disch := omega) only [go_sem, ↓reduceIte, za, zb, zc, zd, ze, zf, zg, zh, zi, zj, zk, zl, zm, zn, zo, dec_t, dec_f, ltI, leI, leN, le63, le40, le0, wrap64_id, wrapu64_id, wrap8_id]
    refine tr_nil (hK _ _ _ ?_)
    clear hK K hbase hfr base
    refine then_n ⟨(i + 1, s ++ (dBytes x.d ++ numI x.r ++ numI x.u)), ?_, ?_, ?_, ?_, Sh.sub_refl _⟩
    · exact hs.1
    · show l.length - (i + 1) < l.length - i; omega
    · exact Env.subW_one rfl <| Env.subW_one rfl <| Env.subW_one rfl <| Env.subW_one rfl <| Env.subW_nil _
    · exact Boxes.subW_nil _
  · try simp only [yb, yc, yd, ye, yf, yg, yh, yi, yj, yk, yl, ym, yn, yo] at h1
    refine awp_exit ?_
    refine then_x ?_
    refine then_x ?_
    refine block_x ?_
    refine then_n ?_
    refine awp_region_k (fun _ => false) (by rw [hB]; rfl) fun K hK base hbase hfr => tr_run ?_
    simp (disch := omega) only [go_sem, ↓reduceIte, za, zb, zc, zd, ze, zf, zg, zh, zi, zj, zk, zl, zm, zn, zo, dec_t, dec_f, ltI, leI, leN, le63, le40, le0, wrap64_id, wrapu64_id, wrap8_id]
    refine tr_nil (hK _ _ _ ?_)
    clear hK K hbase hfr base
    refine awp_ret ?_
    refine ⟨_, rfl, ?_, fun _ _ h => h, fun _ h => h⟩
    rw [acc_end (by omega) h0]; exact VW.refl _
theorem c17 (n : Int) (hn : I63 n) : PCalls Go.Proofs.Tryz.prog 17 [.int .i64 n] (.str (73 :: numI n)) := by
  have h1 := numI_le hn
  refine pcalls_of_awp Go.Proofs.Tryz.func17 rfl (by decide) (Nat.le_of_ble_eq_true rfl) ?_
  intro B σ hB ho hob
  refine awp_region_k (fun _ => false) (by rw [hB]; rfl) fun K hK base hbase hfr => tr_run ?_
  simp (disch := omega) only [go_sem, ↓reduceIte, za, zb, zc, zd, ze, zf, zg, zh, zi, zj, zk, zl, zm, zn, zo, dec_t, dec_f, ltI, leI, leN, le63, le40, le0, wrap64_id, wrapu64_id, wrap8_id]
  refine tr_nil (hK _ _ _ ?_)
  clear hK K hbase hfr base
  refine awp_region_k (fun _ => false) (by rw [hB]; rfl) fun K hK base hbase hfr => tr_run ?_
  simp (disch := omega) only [go_sem, ↓reduceIte, za, zb, zc, zd, ze, zf, zg, zh, zi, zj, zk, zl, zm, zn, zo, dec_t, dec_f, ltI, leI, leN, le63, le40, le0, wrap64_id, wrapu64_id, wrap8_id]
  refine tr_pc (by rfl) (by simp only [go_sem, ↓reduceIte, za, zb, zc, zd, ze, zf, zg, zh, zi, zj, zk, zl, zm, zn, zo] <;> rfl) (c54 _ hn) ?_
  simp (disch := omega) only [go_sem, ↓reduceIte, za, zb, zc, zd, ze, zf, zg, zh, zi, zj, zk, zl, zm, zn, zo, dec_t, dec_f, ltI, leI, leN, le63, le40, le0, wrap64_id, wrapu64_id, wrap8_id]
  refine tr_nil (hK _ _ _ ?_)
  clear hK K hbase hfr base
  refine awp_ret ?_
  refine ⟨_, rfl, ?_, fun _ _ h => h, fun _ h => h⟩
  exact VW.refl _
theorem c19 (n : Int) (hn : I63 n) : PCalls Go.Proofs.Tryz.prog 19 [.int .i64 n] (.str (82 :: numI n)) := by
  have h1 := numI_le hn
  refine pcalls_of_awp Go.Proofs.Tryz.func19 rfl (by decide) (Nat.le_of_ble_eq_true rfl) ?_
  intro B σ hB ho hob
  refine awp_region_k (fun _ => false) (by rw [hB]; rfl) fun K hK base hbase hfr => tr_run ?_
  simp (disch := omega) only [go_sem, ↓reduceIte, za, zb, zc, zd, ze, zf, zg, zh, zi, zj, zk, zl, zm, zn, zo, dec_t, dec_f, ltI, leI, leN, le63, le40, le0, wrap64_id, wrapu64_id, wrap8_id]
  refine tr_nil (hK _ _ _ ?_)
  clear hK K hbase hfr base
  refine awp_region_k (fun _ => false) (by rw [hB]; rfl) fun K hK base hbase hfr => tr_run ?_
  simp (disch := omega) only [go_sem, ↓reduceIte, za, zb, zc, zd, ze, zf, zg, zh, zi, zj, zk, zl, zm, zn, zo, dec_t, dec_f, ltI, leI, leN, le63, le40, le0, wrap64_id, wrapu64_id, wrap8_id]
  refine tr_pc (by rfl) (by simp only [go_sem, ↓reduceIte, za, zb, zc, zd, ze, zf, zg, zh, zi, zj, zk, zl, zm, zn, zo] <;> rfl) (c54 _ hn) ?_
  simp (disch := omega) only [go_sem, ↓reduceIte, za, zb, zc, zd, ze, zf, zg, zh, zi, zj, zk, zl, zm, zn, zo, dec_t, dec_f, ltI, leI, leN, le63, le40, le0, wrap64_id, wrapu64_id, wrap8_id]
  refine tr_nil (hK _ _ _ ?_)
  clear hK K hbase hfr base
  refine awp_ret ?_
  refine ⟨_, rfl, ?_, fun _ _ h => h, fun _ h => h⟩
  exact VW.refl _
theorem c23 (l : List Tg) (tg : Tag) (hl : l.length ≤ 9223372036854775807) (hd : ∀ d ∈ l, d.s.length ≤ 1099511627776 ∧ I63 d.n) (hT : (tgsB l).length ≤ 4611686018427387904) : PCalls Go.Proofs.Tryz.prog 23 [.list (l.map tgV) tg] (.str (78 :: tgsB l)) := by
  refine pcalls_of_awp Go.Proofs.Tryz.func23 rfl (by decide) (Nat.le_of_ble_eq_true rfl) ?_
  intro B σ hB ho hob
  refine awp_region_k (fun _ => false) (by rw [hB]; rfl) fun K hK base hbase hfr => tr_run ?_
  simp (disch := omega) only [go_sem, ↓reduceIte, za, zb, zc, zd, ze, zf, zg, zh, zi, zj, zk, zl, zm, zn, zo, dec_t, dec_f, ltI, leI, leN, le63, le40, le0, wrap64_id, wrapu64_id, wrap8_id]
  refine tr_nil (hK _ _ _ ?_)
  clear hK K hbase hfr base
  refine awp_region_k (fun _ => false) (by rw [hB]; rfl) fun K hK base hbase hfr => tr_run ?_
  simp (disch := omega) only [go_sem, ↓reduceIte, za, zb, zc, zd, ze, zf, zg, zh, zi, zj, zk, zl, zm, zn, zo, dec_t, dec_f, ltI, leI, leN, le63, le40, le0, wrap64_id, wrapu64_id, wrap8_id]
  refine tr_pc (by rfl) (by simp only [go_sem, ↓reduceIte, za, zb, zc, zd, ze, zf, zg, zh, zi, zj, zk, zl, zm, zn, zo] <;> rfl) (c58 l tg hl hd (by omega)) ?_
  simp (disch := omega) only [go_sem, ↓reduceIte, za, zb, zc, zd, ze, zf, zg, zh, zi, zj, zk, zl, zm, zn, zo, dec_t, dec_f, ltI, leI, leN, le63, le40, le0, wrap64_id, wrapu64_id, wrap8_id]
  refine tr_nil (hK _ _ _ ?_)
  clear hK K hbase hfr base
  refine awp_ret ?_
  refine ⟨_, rfl, ?_, fun _ _ h => h, fun _ h => h⟩
  exact VW.refl _
theorem c25 (l : List Peer) (tg : Tag) (hl : l.length ≤ 9223372036854775807) (hd : ∀ d ∈ l, I63 d.id ∧ I63 d.inc ∧ I63 d.st) (hT : (peersB l).length ≤ 4611686018427387904) : PCalls Go.Proofs.Tryz.prog 25 [.list (l.map peerV) tg] (.str (86 :: peersB l)) := by
  refine pcalls_of_awp Go.Proofs.Tryz.func25 rfl (by decide) (Nat.le_of_ble_eq_true rfl) ?_
  intro B σ hB ho hob
  refine awp_region_k (fun _ => false) (by rw [hB]; rfl) fun K hK base hbase hfr => tr_run ?_
  simp (disch := omega) only [go_sem, ↓reduceIte, za, zb, zc, zd, ze, zf, zg, zh, zi, zj, zk, zl, zm, zn, zo, dec_t, dec_f, ltI, leI, leN, le63, le40, le0, wrap64_id, wrapu64_id, wrap8_id]
  refine tr_nil (hK _ _ _ ?_)
  clear hK K hbase hfr base
  refine awp_region_k (fun _ => false) (by rw [hB]; rfl) fun K hK base hbase hfr => tr_run ?_
  simp (disch := omega) only [go_sem, ↓reduceIte, za, zb, zc, zd, ze, zf, zg, zh, zi, zj, zk, zl, zm, zn, zo, dec_t, dec_f, ltI, leI, leN, le63, le40, le0, wrap64_id, wrapu64_id, wrap8_id]
  refine tr_pc (by rfl) (by simp only [go_sem, ↓reduceIte, za, zb, zc, zd, ze, zf, zg, zh, zi, zj, zk, zl, zm, zn, zo] <;> rfl) (c60 l tg hl hd (by omega)) ?_
  simp (disch := omega) only [go_sem, ↓reduceIte, za, zb, zc, zd, ze, zf, zg, zh, zi, zj, zk, zl, zm, zn, zo, dec_t, dec_f, ltI, leI, leN, le63, le40, le0, wrap64_id, wrapu64_id, wrap8_id]
  refine tr_nil (hK _ _ _ ?_)
  clear hK K hbase hfr base
  refine awp_ret ?_
  refine ⟨_, rfl, ?_, fun _ _ h => h, fun _ h => h⟩
  exact VW.refl _
theorem c27 (l : List Hold) (tg : Tag) (hl : l.length ≤ 9223372036854775807) (hd : ∀ d ∈ l, D63 d.d ∧ I63 d.r ∧ I63 d.u) (hT : (holdsB l).length ≤ 4611686018427387904) : PCalls Go.Proofs.Tryz.prog 27 [.list (l.map holdV) tg] (.str (72 :: holdsB l)) := by
  refine pcalls_of_awp Go.Proofs.Tryz.func27 rfl (by decide) (Nat.le_of_ble_eq_true rfl) ?_
  intro B σ hB ho hob
  refine awp_region_k (fun _ => false) (by rw [hB]; rfl) fun K hK base hbase hfr => tr_run ?_
  simp (disch := omega) only [go_sem, ↓reduceIte, za, zb, zc, zd, ze, zf, zg, zh, zi, zj, zk, zl, zm, zn, zo, dec_t, dec_f, ltI, leI, leN, le63, le40, le0, wrap64_id, wrapu64_id, wrap8_id]
  refine tr_nil (hK _ _ _ ?_)
  clear hK K hbase hfr base
  refine awp_region_k (fun _ => false) (by rw [hB]; rfl) fun K hK base hbase hfr => tr_run ?_
  simp (disch := omega) only [go_sem, ↓reduceIte, za, zb, zc, zd, ze, zf, zg, zh, zi, zj, zk, zl, zm, zn, zo, dec_t, dec_f, ltI, leI, leN, le63, le40, le0, wrap64_id, wrapu64_id, wrap8_id]
  refine tr_pc (by rfl) (by simp only [go_sem, ↓reduceIte, za, zb, zc, zd, ze, zf, zg, zh, zi, zj, zk, zl, zm, zn, zo] <;> rfl) (c62 l tg hl hd (by omega)) ?_
  simp (disch := omega) only [go_sem, ↓reduceIte, za, zb, zc, zd, ze, zf, zg, zh, zi, zj, zk, zl, zm, zn, zo, dec_t, dec_f, ltI, leI, leN, le63, le40, le0, wrap64_id, wrapu64_id, wrap8_id]
  refine tr_nil (hK _ _ _ ?_)
  clear hK K hbase hfr base
  refine awp_ret ?_
  refine ⟨_, rfl, ?_, fun _ _ h => h, fun _ h => h⟩
  exact VW.refl _
end Go.Am
