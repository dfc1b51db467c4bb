/- What functions of this program compute, a part: see the main text. No conditions. -/
import Derived.Test.YtanpeaakmdffcaaGreatW26
import Derived.Test.YtanpeaakmdffcaaGreatW25
set_option linter.all false
set_option maxRecDepth 100000
namespace Go.Am
open Go
open Nat renaming reduceEqDiff → za, reduceAdd → zb, reduceMul → zc, reducePow → zd, reduceLeDiff → ze, reduceSub → zf, reduceBEq → zg, reduceBNe → zh, reduceDiv → zi, reduceMod → zj
open Int renaming reduceLT → zk, reduceLE → zl, reduceEq → zm, reduceNe → zn, reduceToNat → zo

def hi (n : Nat) : List UInt8 := if n = 0 then [] else hi (n / 128) ++ [UInt8.ofNat (128 + n % 128)]
theorem numTail_hi : ∀ (k n : Nat) (s : List UInt8), n ≤ k → numTail n s = hi (n / 128) ++ s
  | 0, n, s, h => by
    unfold numTail
    rw [if_pos (by omega), show n / 128 = 0 by omega, hi]; rfl
  | k + 1, n, s, h => by
    unfold numTail
    split
    · rw [show n / 128 = 0 by omega, hi]; rfl
    · rw [numTail_hi k (n / 128) _ (by omega)]
      conv => rhs; rw [hi]
      rw [if_neg (by omega)]
      simp
theorem num_hi (m : Nat) : num m = hi (m / 128) ++ [UInt8.ofNat (m % 128)] := numTail_hi m m _ (Nat.le_refl _)
theorem hi_step {n d : Nat} (hd : d < 128) (h : 0 < n * 128 + d) : hi (n * 128 + d) = hi n ++ [UInt8.ofNat (128 + d)] := by
  rw [hi, if_neg (by omega), show (n * 128 + d) / 128 = n by omega, show (n * 128 + d) % 128 = d by omega]
theorem hi_head : ∀ (k n : Nat), n ≤ k → (hi n).head? ≠ some 128
  | 0, n, h => by rw [hi, if_pos (by omega)]; simp
  | k + 1, n, h => by
    rw [hi]
    split
    · simp
    · by_cases h1 : n / 128 = 0
      · rw [h1, hi, if_pos rfl]
        simp only [List.nil_append, List.head?_cons, ne_eq, Option.some.injEq]
        intro h2
        have := congrArg UInt8.toNat h2
        simp at this
        omega
      · have ih := hi_head k (n / 128) (by omega)
        cases hh : hi (n / 128) with
        | nil => rw [hi, if_neg h1] at hh; simp at hh
        | cons a l => rw [hh] at ih; simpa using ih
def pdGo (s : List UInt8) (i n : Nat) : Option (Nat × List UInt8) :=
  if i < s.length ∧ i < 10 then
    if 144115188075855871 < n ∨ (i = 0 ∧ (s.getD i 0).toNat = 128) then none
    else if (s.getD i 0).toNat < 128 then some (n * 128 + (s.getD i 0).toNat % 128, s.drop (i + 1))
    else pdGo s (i + 1) (n * 128 + (s.getD i 0).toNat % 128)
  else none
termination_by 10 - i
theorem take_getD {s : List UInt8} {i : Nat} (h : i < s.length) : s.take (i + 1) = s.take i ++ [s.getD i 0] := by
  rw [List.take_add_one, List.getElem?_eq_getElem h, getD_eq _ _ _ h]; rfl
theorem rdGo_none : ∀ (k i n : Nat) (s : List UInt8), 10 - i = k → 1 ≤ i → s.head? = some 128 → rdGo s i n = none
  | 0, i, n, s, hk, hi1, hs => by unfold rdGo; rw [if_neg (by omega)]
  | k + 1, i, n, s, hk, hi1, hs => by
    unfold rdGo
    split
    · rename_i h1
      split
      · rfl
      · split
        · rw [if_neg]
          intro h
          rw [num_hi, take_getD h1.1] at h
          have h2 := (List.append_inj' h rfl).1
          have h3 := hi_head _ ((n * 128 + (s.getD i 0).toNat % 128) / 128) (Nat.le_refl _)
          rw [h2] at h3
          cases s with
          | nil => simp at hs
          | cons a l =>
            obtain ⟨j, rfl⟩ : ∃ j, i = j + 1 := ⟨i - 1, by omega⟩
            simp at hs h3
            exact h3 hs
        · exact rdGo_none k (i + 1) _ s (by omega) (by omega) hs
    · rfl
theorem pdGo_eq : ∀ (k i n : Nat) (s : List UInt8), 10 - i = k → s.take i = hi n → (i = 0 ↔ n = 0) → pdGo s i n = rdGo s i n
  | 0, i, n, s, hk, ht, h0 => by unfold pdGo rdGo; rw [if_neg (by omega), if_neg (by omega)]
  | k + 1, i, n, s, hk, ht, h0 => by
    by_cases h1 : i < s.length ∧ i < 10
    · by_cases h2 : i = 0 ∧ (s.getD i 0).toNat = 128
      · obtain ⟨rfl, h3⟩ := h2
        have hs : s.head? = some 128 := by
          cases s with
          | nil => simp at h1
          | cons a l =>
            simp [List.getD] at h3
            simp only [List.head?_cons, Option.some.injEq]
            exact UInt8.toNat_inj.1 (by simpa using h3)
        unfold pdGo rdGo
        rw [if_pos h1, if_pos h1, if_pos (.inr ⟨rfl, h3⟩)]
        split
        · rfl
        · rw [if_neg (by omega), rdGo_none _ 1 _ s rfl (Nat.le_refl _) hs]
      · unfold pdGo rdGo
        rw [if_pos h1, if_pos h1]
        by_cases h3 : 144115188075855871 < n
        · rw [if_pos (.inl h3), if_pos h3]
        · rw [if_neg (by omega), if_neg h3]
          by_cases h4 : (s.getD i 0).toNat < 128
          · rw [if_pos h4, if_pos h4, if_pos]
            rw [num_hi, take_getD h1.1, ht, show (n * 128 + (s.getD i 0).toNat % 128) / 128 = n by omega, show (n * 128 + (s.getD i 0).toNat % 128) % 128 = (s.getD i 0).toNat by omega]
            simp
          · rw [if_neg h4, if_neg h4]
            have hb : (s.getD i 0).toNat < 256 := (s.getD i 0).toNat_lt
            have hpos : 0 < n * 128 + (s.getD i 0).toNat % 128 := by omega
            refine pdGo_eq k (i + 1) _ s (by omega) ?_ (by omega)
            rw [take_getD h1.1, ht, hi_step (by omega) hpos, show 128 + (s.getD i 0).toNat % 128 = (s.getD i 0).toNat by omega]
            simp
    · unfold pdGo rdGo; rw [if_neg h1, if_neg h1]
theorem pdGo_rdGo (s : List UInt8) : pdGo s 0 0 = rdGo s 0 0 := pdGo_eq _ 0 0 s rfl (by rw [hi]; rfl) (by simp)
theorem band7 (x : UInt8) : bits .and .u8 (x.toNat : Int) 127 = ((x.toNat % 128 : Nat) : Int) := by
  have h1 : (BitVec.ofInt 8 (x.toNat : Int) &&& BitVec.ofInt 8 127).toNat = x.toNat % 128 := by
    rw [BitVec.toNat_and]
    have e1 : (BitVec.ofInt 8 (x.toNat : Int)).toNat = x.toNat := by
      rw [BitVec.toNat_ofInt]; have := x.toNat_lt; omega
    rw [e1, show (BitVec.ofInt 8 127).toNat = 2 ^ 7 - 1 from rfl, Nat.and_two_pow_sub_one_eq_mod]
  have e : bits .and .u8 (x.toNat : Int) 127 = IntKind.u8.wrap ((BitVec.ofInt 8 (x.toNat : Int) &&& BitVec.ofInt 8 127).toNat : Int) := rfl
  rw [e, h1, wrap8_id (by omega) (by omega)]
theorem bor7 (n d : Nat) (hn : n ≤ 144115188075855871) (hd : d < 128) : bits .or .u64 ((n * 128 % 18446744073709551616 : Nat) : Int) ((d : Nat) : Int) = ((n * 128 + d : Nat) : Int) := by
  have h1 : (BitVec.ofInt 64 ((n * 128 % 18446744073709551616 : Nat) : Int) ||| BitVec.ofInt 64 (d : Int)).toNat = n * 128 + d := by
    rw [BitVec.toNat_or]
    have e1 : (BitVec.ofInt 64 ((n * 128 % 18446744073709551616 : Nat) : Int)).toNat = 2 ^ 7 * n := by
      rw [BitVec.toNat_ofInt]; omega
    have e2 : (BitVec.ofInt 64 (d : Int)).toNat = d := by
      rw [BitVec.toNat_ofInt]; omega
    rw [e1, e2, ← Nat.two_pow_add_eq_or_of_lt (by omega)]
    omega
  have e : bits .or .u64 ((n * 128 % 18446744073709551616 : Nat) : Int) (d : Int) = IntKind.u64.wrap ((BitVec.ofInt 64 ((n * 128 % 18446744073709551616 : Nat) : Int) ||| BitVec.ofInt 64 (d : Int)).toNat : Int) := rfl
  rw [e, h1, wrapu64_id (by omega) (by omega)]
set_option maxHeartbeats 4000000 in
theorem c94 (σ : Sh) (oid : Nat) (r : Rd) (hσ : σ.ob oid = some (.cells (rdV r))) : WCalls Go.Proofs.Tryz.prog 94 [.ptr oid 0] σ (.bool (!r.torn)) (σ) := by
  refine wcalls_of_awp Go.Proofs.Tryz.func94 rfl (by decide) (Nat.le_of_ble_eq_true rfl) ?_
  intro B hB ho hob
  refine awp_region_k (fun _ => false) (by rw [hB]; rfl) fun K hK base hbase hfr => ?_
  refine tr_run ?_
  simp (disch := omega) only [go_sem, ↓reduceIte, za, zb, zc, zd, ze, zf, zg, zh, zi, zj, zk, zl, zm, zn, zo, hσ, dec_t, dec_f, ltI, leI, leN, le63, le40, le0, wrap64_id, wrapu64_id, wrap8_id]
  refine tr_nil (hK _ _ _ ?_)
  clear hK K hbase hfr base
  refine awp_region_k (fun _ => false) (by rw [hB]; rfl) fun K hK base hbase hfr => ?_
  refine tr_run ?_
  simp (disch := omega) only [go_sem, ↓reduceIte, za, zb, zc, zd, ze, zf, zg, zh, zi, zj, zk, zl, zm, zn, zo, hσ, dec_t, dec_f, ltI, leI, leN, le63, le40, le0, wrap64_id, wrapu64_id, wrap8_id]
  refine tr_nil (hK _ _ _ ?_)
  clear hK K hbase hfr base
  refine awp_ret ?_
  refine ⟨_, rfl, ?_, fun _ _ h => h, fun _ h => h⟩
  exact VW.refl _
set_option maxHeartbeats 4000000 in
theorem c134 (σ : Sh) (oid : Nat) (r : Rd) (hσ : σ.ob oid = some (.cells (rdV r))) : WCalls Go.Proofs.Tryz.prog 134 [.ptr oid 0] σ (.tuple []) (σ.setOb oid (.cells (rdV ⟨r.s, true⟩))) := by
  refine wcalls_of_awp Go.Proofs.Tryz.func134 rfl (by decide) (Nat.le_of_ble_eq_true rfl) ?_
  intro B hB ho hob
  refine awp_region_k (fun _ => false) (by rw [hB]; rfl) fun K hK base hbase hfr => ?_
  refine tr_run ?_
  simp (disch := omega) only [go_sem, ↓reduceIte, za, zb, zc, zd, ze, zf, zg, zh, zi, zj, zk, zl, zm, zn, zo, hσ, dec_t, dec_f, ltI, leI, leN, le63, le40, le0, wrap64_id, wrapu64_id, wrap8_id]
  refine tr_nil (hK _ _ _ ?_)
  clear hK K hbase hfr base
  refine awp_cond (rfl) (fun h1 => ?_) (fun h1 => by cases h1)
  refine awp_region_e (fun _ => false) (by rw [hB]; rfl) fun K hK base hbase hfr => ?_
  refine tr_run ?_
  simp (disch := omega) only [go_sem, ↓reduceIte, za, zb, zc, zd, ze, zf, zg, zh, zi, zj, zk, zl, zm, zn, zo, hσ, dec_t, dec_f, ltI, leI, leN, le63, le40, le0, wrap64_id, wrapu64_id, wrap8_id]
  refine tr_nil (hK _ _ _ ?_)
  clear hK K hbase hfr base
  refine ⟨_, rfl, ?_, fun _ _ h => h, fun _ h => h⟩
  exact VW.refl _
set_option maxHeartbeats 4000000 in
theorem c133f (σ : Sh) (oid : Nat) (s : List UInt8) (hσ : σ.ob oid = some (.cells [.str s, .bool false])) : WCalls Go.Proofs.Tryz.prog 133 [.ptr oid 0] σ (.int .u64 (rNum ⟨s, false⟩).1) (σ.setOb oid (.cells (rdV (rNum ⟨s, false⟩).2))) := by
  refine wcalls_of_awp Go.Proofs.Tryz.func133 rfl (by decide) (Nat.le_of_ble_eq_true rfl) ?_
  intro B hB ho hob
  refine awp_region_k (fun _ => false) (by rw [hB]; rfl) fun K hK base hbase hfr => ?_
  refine tr_run ?_
  simp (disch := omega) only [go_sem, ↓reduceIte, za, zb, zc, zd, ze, zf, zg, zh, zi, zj, zk, zl, zm, zn, zo, hσ, dec_t, dec_f, ltI, leI, leN, le63, le40, le0, wrap64_id, wrapu64_id, wrap8_id]
  refine tr_nil (hK _ _ _ ?_)
  clear hK K hbase hfr base
  refine awp_scope ?_
  refine awp_seq ?_
  refine awp_region_k (fun _ => false) (by rw [hB]; rfl) fun K hK base hbase hfr => ?_
  refine tr_run ?_
  simp (disch := omega) only [go_sem, ↓reduceIte, za, zb, zc, zd, ze, zf, zg, zh, zi, zj, zk, zl, zm, zn, zo, hσ, dec_t, dec_f, ltI, leI, leN, le63, le40, le0, wrap64_id, wrapu64_id, wrap8_id]
  refine tr_wc (by rfl) (by simp only [go_sem, ↓reduceIte, za, zb, zc, zd, ze, zf, zg, zh, zi, zj, zk, zl, zm, zn, zo, hσ] <;> rfl) (c94 σ oid ⟨s, false⟩ hσ) ?_
  simp (disch := omega) only [go_sem, ↓reduceIte, za, zb, zc, zd, ze, zf, zg, zh, zi, zj, zk, zl, zm, zn, zo, hσ, dec_t, dec_f, ltI, leI, leN, le63, le40, le0, wrap64_id, wrapu64_id, wrap8_id]
  refine tr_nil (hK _ _ _ ?_)
  clear hK K hbase hfr base
  refine awp_cond (rfl) (fun h1 => by cases h1) (fun h1 => ?_)
  refine awp_skip ?_
  refine then_n ?_
  refine awp_region_k (fun _ => false) (by rw [hB]; rfl) fun K hK base hbase hfr => ?_
  refine tr_run ?_
  simp (disch := omega) only [go_sem, ↓reduceIte, za, zb, zc, zd, ze, zf, zg, zh, zi, zj, zk, zl, zm, zn, zo, hσ, dec_t, dec_f, ltI, leI, leN, le63, le40, le0, wrap64_id, wrapu64_id, wrap8_id]
  refine tr_nil (hK _ _ _ ?_)
  clear hK K hbase hfr base
  skip
  refine awp_seq ?_
  refine awp_label ?_
  refine then_n ?_
  refine awp_seq ?_
  refine awp_region_k (fun _ => false) (by rw [hB]; rfl) fun K hK base hbase hfr => ?_
  refine tr_run ?_
  simp (disch := omega) only [go_sem, ↓reduceIte, za, zb, zc, zd, ze, zf, zg, zh, zi, zj, zk, zl, zm, zn, zo, hσ, dec_t, dec_f, ltI, leI, leN, le63, le40, le0, wrap64_id, wrapu64_id, wrap8_id]
  refine tr_nil (hK _ _ _ ?_)
  clear hK K hbase hfr base
  refine awp_block ?_
  refine awp_loop_w (α := Nat × Nat) (fun x => pdGo s x.1 x.2 = pdGo s 0 0 ∧ x.2 < 18446744073709551616 ∧ x.1 ≤ 10) (fun x => [(0, .ptr oid 0), (3, .int .u64 x.2), (17, .int .i64 x.1), (16, .int .i64 (min (s.length : Int) 10)), (2, .int .u64 0)]) (fun x => []) (fun x => σ) (fun x => 10 - x.1) (0, 0) ?_ ?_ (Boxes.subW_nil _) (Sh.sub_refl _) ?_
  · exact ⟨rfl, by decide, by decide⟩
  · exact Env.subW_one rfl <| Env.subW_one rfl <| Env.subW_one rfl <| Env.subW_one rfl <| Env.subW_one rfl <| Env.subW_nil _
  rintro ⟨i, n⟩ ⟨hG, hn, hi⟩
  dsimp only at hG hn hi
  refine awp_region_k (fun _ => false) (by rw [hB]; rfl) fun K hK base hbase hfr => ?_
  refine tr_run ?_
  simp (disch := omega) only [go_sem, ↓reduceIte, za, zb, zc, zd, ze, zf, zg, zh, zi, zj, zk, zl, zm, zn, zo, hσ, dec_t, dec_f, ltI, leI, leN, le63, le40, le0, wrap64_id, wrapu64_id, wrap8_id]
  refine tr_nil (hK _ _ _ ?_)
  clear hK K hbase hfr base
  refine awp_seq ?_
  refine awp_cond (rfl) (fun h2 => ?_) (fun h2 => ?_)
  · try simp only [yb, yc, yd, ye, yf, yg, yh, yi, yj, yk, yl, ym, yn, yo] at h2
    obtain ⟨x, hx⟩ : ∃ x, s[i]? = some x := ⟨s[i], List.getElem?_eq_getElem (by omega)⟩
    have hxl := x.toNat_lt
    have hil : i < s.length := (List.getElem?_eq_some_iff.1 hx).1
    refine awp_skip ?_
    refine then_n ?_
    refine awp_seq ?_
    refine awp_block ?_
    refine awp_region_k (fun _ => false) (by rw [hB]; rfl) fun K hK base hbase hfr => ?_
    refine tr_run ?_
    simp (disch := omega) only [go_sem, ↓reduceIte, za, zb, zc, zd, ze, zf, zg, zh, zi, zj, zk, zl, zm, zn, zo, hσ, dec_t, dec_f, ltI, leI, leN, le63, le40, le0, wrap64_id, wrapu64_id, wrap8_id]
    refine tr_nil (hK _ _ _ ?_)
    clear hK K hbase hfr base
    refine awp_region_k (fun _ => false) (by rw [hB]; rfl) fun K hK base hbase hfr => ?_
    refine tr_run ?_
    simp (disch := omega) only [go_sem, ↓reduceIte, za, zb, zc, zd, ze, zf, zg, zh, zi, zj, zk, zl, zm, zn, zo, hσ, hx, dec_t, dec_f, ltI, leI, leN, le63, le40, le0, wrap64_id, wrapu64_id, wrap8_id]
    refine tr_nil (hK _ _ _ ?_)
    clear hK K hbase hfr base
    refine awp_region_k (fun _ => false) (by rw [hB]; rfl) fun K hK base hbase hfr => ?_
    refine tr_run ?_
    simp (disch := omega) only [go_sem, ↓reduceIte, za, zb, zc, zd, ze, zf, zg, zh, zi, zj, zk, zl, zm, zn, zo, hσ, dec_t, dec_f, ltI, leI, leN, le63, le40, le0, wrap64_id, wrapu64_id, wrap8_id]
    refine tr_pc (by rfl) (by simp only [go_sem, ↓reduceIte, za, zb, zc, zd, ze, zf, zg, zh, zi, zj, zk, zl, zm, zn, zo, hσ] <;> rfl) (c170 n 128 hn (by decide)) ?_
    simp (disch := omega) only [go_sem, ↓reduceIte, za, zb, zc, zd, ze, zf, zg, zh, zi, zj, zk, zl, zm, zn, zo, hσ, dec_t, dec_f, ltI, leI, leN, le63, le40, le0, wrap64_id, wrapu64_id, wrap8_id]
    refine tr_nil (hK _ _ _ ?_)
    clear hK K hbase hfr base
    refine awp_seq ?_
    refine awp_region_k (fun _ => false) (by rw [hB]; rfl) fun K hK base hbase hfr => ?_
    rcases q3 : decide ((0 : Int) < ((n * 128 / 18446744073709551616 : Nat) : Int)) with _ | _
    · skip
      rcases q4 : ((i : Int) == 0) with _ | _
      · skip
        refine tr_run ?_
        simp (disch := omega) only [go_sem, ↓reduceIte, za, zb, zc, zd, ze, zf, zg, zh, zi, zj, zk, zl, zm, zn, zo, hσ, q3, q4, dec_t, dec_f, ltI, leI, leN, le63, le40, le0, wrap64_id, wrapu64_id, wrap8_id]
        refine tr_nil (hK _ _ _ ?_)
        clear hK K hbase hfr base
        try simp only [yb, yc, yd, ye, yf, yg, yh, yi, yj, yk, yl, ym, yn, yo] at q3
        try simp only [yb, yc, yd, ye, yf, yg, yh, yi, yj, yk, yl, ym, yn, yo] at q4
        refine awp_cond (rfl) (fun h5 => by cases h5) (fun h5 => ?_)
        refine awp_skip ?_
        refine then_n ?_
        have hbor := bor7 n (x.toNat % 128) (by omega) (by omega)
        refine awp_region_k (fun _ => false) (by rw [hB]; rfl) fun K hK base hbase hfr => ?_
        refine tr_run ?_
        simp (disch := omega) only [go_sem, ↓reduceIte, za, zb, zc, zd, ze, zf, zg, zh, zi, zj, zk, zl, zm, zn, zo, hσ, band7, hbor, dec_t, dec_f, ltI, leI, leN, le63, le40, le0, wrap64_id, wrapu64_id, wrap8_id]
        refine tr_nil (hK _ _ _ ?_)
        clear hK K hbase hfr base
        refine awp_region_k (fun _ => false) (by rw [hB]; rfl) fun K hK base hbase hfr => ?_
        refine tr_run ?_
        simp (disch := omega) only [go_sem, ↓reduceIte, za, zb, zc, zd, ze, zf, zg, zh, zi, zj, zk, zl, zm, zn, zo, hσ, dec_t, dec_f, ltI, leI, leN, le63, le40, le0, wrap64_id, wrapu64_id, wrap8_id]
        refine tr_nil (hK _ _ _ ?_)
        clear hK K hbase hfr base
        refine awp_cond (rfl) (fun h6 => ?_) (fun h6 => ?_)
        · try simp only [yb, yc, yd, ye, yf, yg, yh, yi, yj, yk, yl, ym, yn, yo] at h6
          refine awp_region_k (fun _ => false) (by rw [hB]; rfl) fun K hK base hbase hfr => ?_
          refine tr_run ?_
          simp (disch := omega) only [go_sem, ↓reduceIte, za, zb, zc, zd, ze, zf, zg, zh, zi, zj, zk, zl, zm, zn, zo, hσ, dec_t, dec_f, ltI, leI, leN, le63, le40, le0, wrap64_id, wrapu64_id, wrap8_id]
          refine tr_nil (hK _ _ _ ?_)
          clear hK K hbase hfr base
          refine awp_region_k (fun _ => false) (by rw [hB]; rfl) fun K hK base hbase hfr => ?_
          refine tr_run ?_
          simp (disch := omega) only [go_sem, ↓reduceIte, za, zb, zc, zd, ze, zf, zg, zh, zi, zj, zk, zl, zm, zn, zo, hσ, dec_t, dec_f, ltI, leI, leN, le63, le40, le0, wrap64_id, wrapu64_id, wrap8_id]
          refine tr_nil (hK _ _ _ ?_)
          clear hK K hbase hfr base
          refine awp_ret ?_
          refine block_r ?_
          refine then_r ?_
          refine then_r ?_
          refine block_r ?_
          refine then_r ?_
          refine scope_r ?_
          have e : rdGo s 0 0 = some (n * 128 + x.toNat % 128, s.drop (i + 1)) := by rw [← pdGo_rdGo, ← hG]; unfold pdGo; rw [getD_of hx, if_pos ⟨hil, by omega⟩, if_neg (by omega), if_pos (by omega)]
          rw [rNum_some e]
          exact ⟨_, rfl, VW.refl _, fun _ _ h => h, fun _ h => h⟩
        · try simp only [yb, yc, yd, ye, yf, yg, yh, yi, yj, yk, yl, ym, yn, yo] at h6
          refine awp_skip ?_
          refine block_n ?_
          refine then_n ?_
          refine awp_region_e (fun _ => false) (by rw [hB]; rfl) fun K hK base hbase hfr => ?_
          refine tr_run ?_
          simp (disch := omega) only [go_sem, ↓reduceIte, za, zb, zc, zd, ze, zf, zg, zh, zi, zj, zk, zl, zm, zn, zo, hσ, dec_t, dec_f, ltI, leI, leN, le63, le40, le0, wrap64_id, wrapu64_id, wrap8_id]
          refine tr_nil (hK _ _ _ ?_)
          clear hK K hbase hfr base
          refine then_n ⟨(i + 1, n * 128 + x.toNat % 128), ?_, ?_, ?_, ?_, Sh.sub_refl _⟩
          · refine ⟨?_, ?_, ?_⟩
            · rw [← hG]; conv => rhs; unfold pdGo
              rw [getD_of hx, if_pos ⟨by omega, by omega⟩, if_neg (by omega), if_neg (by omega)]
            · show n * 128 + x.toNat % 128 < _; omega
            · show i + 1 ≤ 10; omega
          · show 10 - (i + 1) < 10 - i; omega
          · exact Env.subW_one rfl <| Env.subW_one rfl <| Env.subW_one rfl <| Env.subW_one rfl <| Env.subW_one rfl <| Env.subW_nil _
          · exact Boxes.subW_nil _
      · skip
        refine tr_run ?_
        simp (disch := omega) only [go_sem, ↓reduceIte, za, zb, zc, zd, ze, zf, zg, zh, zi, zj, zk, zl, zm, zn, zo, hσ, q3, q4, dec_t, dec_f, ltI, leI, leN, le63, le40, le0, wrap64_id, wrapu64_id, wrap8_id]
        refine tr_nil (hK _ _ _ ?_)
        clear hK K hbase hfr base
        try simp only [yb, yc, yd, ye, yf, yg, yh, yi, yj, yk, yl, ym, yn, yo] at q3
        try simp only [yb, yc, yd, ye, yf, yg, yh, yi, yj, yk, yl, ym, yn, yo] at q4
        refine awp_cond (rfl) (fun h7 => ?_) (fun h7 => ?_)
        · try simp only [yb, yc, yd, ye, yf, yg, yh, yi, yj, yk, yl, ym, yn, yo] at h7
          refine awp_exit ?_
          refine then_x ?_
          refine block_o (by decide) ?_
          refine then_x ?_
          refine then_x ?_
          refine block_x ?_
          refine then_n ?_
          refine awp_region_k (fun _ => false) (by rw [hB]; rfl) fun K hK base hbase hfr => ?_
          refine tr_run ?_
          simp (disch := omega) only [go_sem, ↓reduceIte, za, zb, zc, zd, ze, zf, zg, zh, zi, zj, zk, zl, zm, zn, zo, hσ, dec_t, dec_f, ltI, leI, leN, le63, le40, le0, wrap64_id, wrapu64_id, wrap8_id]
          refine tr_wc (by rfl) (by simp only [go_sem, ↓reduceIte, za, zb, zc, zd, ze, zf, zg, zh, zi, zj, zk, zl, zm, zn, zo, hσ] <;> rfl) (c134 σ oid ⟨s, false⟩ hσ) ?_
          simp (disch := omega) only [go_sem, ↓reduceIte, za, zb, zc, zd, ze, zf, zg, zh, zi, zj, zk, zl, zm, zn, zo, hσ, dec_t, dec_f, ltI, leI, leN, le63, le40, le0, wrap64_id, wrapu64_id, wrap8_id]
          refine tr_nil (hK _ _ _ ?_)
          clear hK K hbase hfr base
          refine awp_region_k (fun _ => false) (by rw [hB]; rfl) fun K hK base hbase hfr => ?_
          refine tr_run ?_
          simp (disch := omega) only [go_sem, ↓reduceIte, za, zb, zc, zd, ze, zf, zg, zh, zi, zj, zk, zl, zm, zn, zo, hσ, dec_t, dec_f, ltI, leI, leN, le63, le40, le0, wrap64_id, wrapu64_id, wrap8_id]
          refine tr_nil (hK _ _ _ ?_)
          clear hK K hbase hfr base
          refine awp_ret ?_
          refine scope_r ?_
          have e : rdGo s 0 0 = none := by rw [← pdGo_rdGo, ← hG]; unfold pdGo; rw [if_pos ⟨hil, by omega⟩, if_pos (.inr ⟨by omega, by rw [getD_of hx]; omega⟩)]
          rw [rNum_none e]
          exact ⟨_, rfl, VW.refl _, fun _ _ h => h, fun _ h => h⟩
        · try simp only [yb, yc, yd, ye, yf, yg, yh, yi, yj, yk, yl, ym, yn, yo] at h7
          refine awp_skip ?_
          refine then_n ?_
          have hbor := bor7 n (x.toNat % 128) (by omega) (by omega)
          refine awp_region_k (fun _ => false) (by rw [hB]; rfl) fun K hK base hbase hfr => ?_
          refine tr_run ?_
          simp (disch := omega) only [go_sem, ↓reduceIte, za, zb, zc, zd, ze, zf, zg, zh, zi, zj, zk, zl, zm, zn, zo, hσ, band7, hbor, dec_t, dec_f, ltI, leI, leN, le63, le40, le0, wrap64_id, wrapu64_id, wrap8_id]
          refine tr_nil (hK _ _ _ ?_)
          clear hK K hbase hfr base
          refine awp_region_k (fun _ => false) (by rw [hB]; rfl) fun K hK base hbase hfr => ?_
          refine tr_run ?_
          simp (disch := omega) only [go_sem, ↓reduceIte, za, zb, zc, zd, ze, zf, zg, zh, zi, zj, zk, zl, zm, zn, zo, hσ, dec_t, dec_f, ltI, leI, leN, le63, le40, le0, wrap64_id, wrapu64_id, wrap8_id]
          refine tr_nil (hK _ _ _ ?_)
          clear hK K hbase hfr base
          refine awp_cond (rfl) (fun h8 => ?_) (fun h8 => ?_)
          · try simp only [yb, yc, yd, ye, yf, yg, yh, yi, yj, yk, yl, ym, yn, yo] at h8
            refine awp_region_k (fun _ => false) (by rw [hB]; rfl) fun K hK base hbase hfr => ?_
            refine tr_run ?_
            simp (disch := omega) only [go_sem, ↓reduceIte, za, zb, zc, zd, ze, zf, zg, zh, zi, zj, zk, zl, zm, zn, zo, hσ, dec_t, dec_f, ltI, leI, leN, le63, le40, le0, wrap64_id, wrapu64_id, wrap8_id]
            refine tr_nil (hK _ _ _ ?_)
            clear hK K hbase hfr base
            refine awp_region_k (fun _ => false) (by rw [hB]; rfl) fun K hK base hbase hfr => ?_
            refine tr_run ?_
            simp (disch := omega) only [go_sem, ↓reduceIte, za, zb, zc, zd, ze, zf, zg, zh, zi, zj, zk, zl, zm, zn, zo, hσ, dec_t, dec_f, ltI, leI, leN, le63, le40, le0, wrap64_id, wrapu64_id, wrap8_id]
            refine tr_nil (hK _ _ _ ?_)
            clear hK K hbase hfr base
            refine awp_ret ?_
            refine block_r ?_
            refine then_r ?_
            refine then_r ?_
            refine block_r ?_
            refine then_r ?_
            refine scope_r ?_
            have e : rdGo s 0 0 = some (n * 128 + x.toNat % 128, s.drop (i + 1)) := by rw [← pdGo_rdGo, ← hG]; unfold pdGo; rw [getD_of hx, if_pos ⟨hil, by omega⟩, if_neg (by omega), if_pos (by omega)]
            rw [rNum_some e]
            exact ⟨_, rfl, VW.refl _, fun _ _ h => h, fun _ h => h⟩
          · try simp only [yb, yc, yd, ye, yf, yg, yh, yi, yj, yk, yl, ym, yn, yo] at h8
            refine awp_skip ?_
            refine block_n ?_
            refine then_n ?_
            refine awp_region_e (fun _ => false) (by rw [hB]; rfl) fun K hK base hbase hfr => ?_
            refine tr_run ?_
            simp (disch := omega) only [go_sem, ↓reduceIte, za, zb, zc, zd, ze, zf, zg, zh, zi, zj, zk, zl, zm, zn, zo, hσ, dec_t, dec_f, ltI, leI, leN, le63, le40, le0, wrap64_id, wrapu64_id, wrap8_id]
            refine tr_nil (hK _ _ _ ?_)
            clear hK K hbase hfr base
            refine then_n ⟨(i + 1, n * 128 + x.toNat % 128), ?_, ?_, ?_, ?_, Sh.sub_refl _⟩
            · refine ⟨?_, ?_, ?_⟩
              · rw [← hG]; conv => rhs; unfold pdGo
                rw [getD_of hx, if_pos ⟨by omega, by omega⟩, if_neg (by omega), if_neg (by omega)]
              · show n * 128 + x.toNat % 128 < _; omega
              · show i + 1 ≤ 10; omega
            · show 10 - (i + 1) < 10 - i; omega
            · exact Env.subW_one rfl <| Env.subW_one rfl <| Env.subW_one rfl <| Env.subW_one rfl <| Env.subW_one rfl <| Env.subW_nil _
            · exact Boxes.subW_nil _
    · skip
      refine tr_run ?_
      simp (disch := omega) only [go_sem, ↓reduceIte, za, zb, zc, zd, ze, zf, zg, zh, zi, zj, zk, zl, zm, zn, zo, hσ, q3, dec_t, dec_f, ltI, leI, leN, le63, le40, le0, wrap64_id, wrapu64_id, wrap8_id]
      refine tr_nil (hK _ _ _ ?_)
      clear hK K hbase hfr base
      try simp only [yb, yc, yd, ye, yf, yg, yh, yi, yj, yk, yl, ym, yn, yo] at q3
      refine awp_cond (rfl) (fun h9 => ?_) (fun h9 => by cases h9)
      refine awp_exit ?_
      refine then_x ?_
      refine block_o (by decide) ?_
      refine then_x ?_
      refine then_x ?_
      refine block_x ?_
      refine then_n ?_
      refine awp_region_k (fun _ => false) (by rw [hB]; rfl) fun K hK base hbase hfr => ?_
      refine tr_run ?_
      simp (disch := omega) only [go_sem, ↓reduceIte, za, zb, zc, zd, ze, zf, zg, zh, zi, zj, zk, zl, zm, zn, zo, hσ, dec_t, dec_f, ltI, leI, leN, le63, le40, le0, wrap64_id, wrapu64_id, wrap8_id]
      refine tr_wc (by rfl) (by simp only [go_sem, ↓reduceIte, za, zb, zc, zd, ze, zf, zg, zh, zi, zj, zk, zl, zm, zn, zo, hσ] <;> rfl) (c134 σ oid ⟨s, false⟩ hσ) ?_
      simp (disch := omega) only [go_sem, ↓reduceIte, za, zb, zc, zd, ze, zf, zg, zh, zi, zj, zk, zl, zm, zn, zo, hσ, dec_t, dec_f, ltI, leI, leN, le63, le40, le0, wrap64_id, wrapu64_id, wrap8_id]
      refine tr_nil (hK _ _ _ ?_)
      clear hK K hbase hfr base
      refine awp_region_k (fun _ => false) (by rw [hB]; rfl) fun K hK base hbase hfr => ?_
      refine tr_run ?_
      simp (disch := omega) only [go_sem, ↓reduceIte, za, zb, zc, zd, ze, zf, zg, zh, zi, zj, zk, zl, zm, zn, zo, hσ, dec_t, dec_f, ltI, leI, leN, le63, le40, le0, wrap64_id, wrapu64_id, wrap8_id]
      refine tr_nil (hK _ _ _ ?_)
      clear hK K hbase hfr base
      refine awp_ret ?_
      refine scope_r ?_
      have e : rdGo s 0 0 = none := by rw [← pdGo_rdGo, ← hG]; unfold pdGo; rw [if_pos ⟨hil, by omega⟩, if_pos (.inl (by omega))]
      rw [rNum_none e]
      exact ⟨_, rfl, VW.refl _, fun _ _ h => h, fun _ h => h⟩
  · try simp only [yb, yc, yd, ye, yf, yg, yh, yi, yj, yk, yl, ym, yn, yo] at h2
    refine awp_exit ?_
    refine then_x ?_
    refine then_x ?_
    refine block_x ?_
    refine then_n ?_
    refine awp_region_k (fun _ => false) (by rw [hB]; rfl) fun K hK base hbase hfr => ?_
    refine tr_run ?_
    simp (disch := omega) only [go_sem, ↓reduceIte, za, zb, zc, zd, ze, zf, zg, zh, zi, zj, zk, zl, zm, zn, zo, hσ, dec_t, dec_f, ltI, leI, leN, le63, le40, le0, wrap64_id, wrapu64_id, wrap8_id]
    refine tr_wc (by rfl) (by simp only [go_sem, ↓reduceIte, za, zb, zc, zd, ze, zf, zg, zh, zi, zj, zk, zl, zm, zn, zo, hσ] <;> rfl) (c134 σ oid ⟨s, false⟩ hσ) ?_
    simp (disch := omega) only [go_sem, ↓reduceIte, za, zb, zc, zd, ze, zf, zg, zh, zi, zj, zk, zl, zm, zn, zo, hσ, dec_t, dec_f, ltI, leI, leN, le63, le40, le0, wrap64_id, wrapu64_id, wrap8_id]
    refine tr_nil (hK _ _ _ ?_)
    clear hK K hbase hfr base
    refine awp_region_k (fun _ => false) (by rw [hB]; rfl) fun K hK base hbase hfr => ?_
    refine tr_run ?_
    simp (disch := omega) only [go_sem, ↓reduceIte, za, zb, zc, zd, ze, zf, zg, zh, zi, zj, zk, zl, zm, zn, zo, hσ, dec_t, dec_f, ltI, leI, leN, le63, le40, le0, wrap64_id, wrapu64_id, wrap8_id]
    refine tr_nil (hK _ _ _ ?_)
    clear hK K hbase hfr base
    refine awp_ret ?_
    refine scope_r ?_
    have e : rdGo s 0 0 = none := by rw [← pdGo_rdGo, ← hG]; unfold pdGo; rw [if_neg (by omega)]
    rw [rNum_none e]
    exact ⟨_, rfl, VW.refl _, fun _ _ h => h, fun _ h => h⟩
end Go.Am
namespace Go.Am
open Go
theorem hi_len : ∀ (k n : Nat), n < 128 ^ k → (hi n).length ≤ k
  | 0, n, h => by rw [hi, if_pos (by simpa using h)]; simp
  | k + 1, n, h => by
    rw [hi]
    split
    · simp
    · have := hi_len k (n / 128) (by rw [Nat.pow_succ] at h; omega)
      simp only [List.length_append, List.length_cons, List.length_nil]
      omega
theorem pdGo_hi : ∀ (k q : Nat), q ≤ k → q < 144115188075855872 → ∀ t : List UInt8, t ≠ [] → pdGo (hi q ++ t) 0 0 = pdGo (hi q ++ t) (hi q).length q
  | 0, q, hk, hq, t, ht => by
    obtain rfl : q = 0 := by omega
    rw [hi]; rfl
  | k + 1, q, hk, hq, t, ht => by
    by_cases h0 : q = 0
    · subst h0; rw [hi]; rfl
    · have e : hi q = hi (q / 128) ++ [UInt8.ofNat (128 + q % 128)] := by rw [hi, if_neg h0]
      have hl := hi_len 8 (q / 128) (by omega)
      rw [e, List.append_assoc, pdGo_hi k (q / 128) (by omega) (by omega) _ (by simp)]
      have hg : (hi (q / 128) ++ ([UInt8.ofNat (128 + q % 128)] ++ t)).getD (hi (q / 128)).length 0 = UInt8.ofNat (128 + q % 128) := by
        simp [List.getD]
      have hn : (UInt8.ofNat (128 + q % 128)).toNat = 128 + q % 128 := by
        simp; omega
      conv => lhs; unfold pdGo
      rw [hg, hn, if_pos ⟨by simp, by omega⟩, if_neg, if_neg (by omega)]
      · rw [show q / 128 * 128 + (128 + q % 128) % 128 = q by omega]
        simp
      · rintro (h | ⟨h1, h2⟩)
        · omega
        · have h3 : q / 128 = 0 := by
            rw [List.length_eq_zero_iff, hi] at h1
            split at h1
            · assumption
            · simp at h1
          omega
theorem rdGo_num (n : Nat) (hn : n < 18446744073709551616) (rest : List UInt8) : rdGo (num n ++ rest) 0 0 = some (n, rest) := by
  rw [← pdGo_rdGo, num_hi, List.append_assoc, pdGo_hi _ (n / 128) (Nat.le_refl _) (by omega) _ (by simp)]
  have hl := hi_len 9 (n / 128) (by omega)
  have hg : (hi (n / 128) ++ ([UInt8.ofNat (n % 128)] ++ rest)).getD (hi (n / 128)).length 0 = UInt8.ofNat (n % 128) := by simp [List.getD]
  have hm : (UInt8.ofNat (n % 128)).toNat = n % 128 := by simp; omega
  unfold pdGo
  rw [hg, hm, if_pos ⟨by simp, by omega⟩, if_neg (by omega), if_pos (by omega)]
  rw [show n / 128 * 128 + n % 128 % 128 = n by omega]
  simp [List.drop_append]
theorem rNum_num (n : Nat) (hn : n < 18446744073709551616) (rest : List UInt8) : rNum ⟨num n ++ rest, false⟩ = (n, ⟨rest, false⟩) := rNum_some (rdGo_num n hn rest)
theorem rInt_numI (n most : Int) (h0 : 0 ≤ n) (h1 : n ≤ most) (hm : most < 9223372036854775808) (rest : List UInt8) : rInt most ⟨numI n ++ rest, false⟩ = (n, ⟨rest, false⟩) := by
  have h := rNum_num n.toNat (by omega) rest
  rw [rInt_ok (by unfold numI; rw [h]; show ¬ most < ((n.toNat : Nat) : Int); omega) (by unfold numI; rw [h])]
  unfold numI
  rw [h]
  show (((n.toNat : Nat) : Int), _) = _
  rw [Int.toNat_of_nonneg h0]
theorem rdGo_inv : ∀ (k i n : Nat) (s rest : List UInt8) (m : Nat), 10 - i = k → rdGo s i n = some (m, rest) → s = num m ++ rest
  | 0, i, n, s, rest, m, hk, h => by
    unfold rdGo at h
    rw [if_neg (by omega)] at h
    cases h
  | k + 1, i, n, s, rest, m, hk, h => by
    unfold rdGo at h
    split at h
    · split at h
      · cases h
      · split at h
        · split at h
          · rename_i h1
            cases h
            rw [h1, List.take_append_drop]
          · cases h
        · exact rdGo_inv k (i + 1) _ s rest m (by omega) h
    · cases h
/-- What was read, was written so. -/
theorem rNum_inv {r : Rd} (h : (rNum r).2.torn = false) : r.torn = false ∧ r.s = num (rNum r).1 ++ (rNum r).2.s := by
  obtain ⟨s, t⟩ := r
  cases t with
  | true => rw [rNum_torn] at h; cases h
  | false =>
    cases h1 : rdGo s 0 0 with
    | none => rw [rNum_none h1] at h; cases h
    | some x => obtain ⟨n, rest⟩ := x; rw [rNum_some h1]; exact ⟨rfl, rdGo_inv _ 0 0 s rest n rfl h1⟩
theorem rInt_inv {most : Int} {r : Rd} (h : (rInt most r).2.torn = false) : r.torn = false ∧ r.s = numI (rInt most r).1 ++ (rInt most r).2.s := by
  unfold rInt at h ⊢
  split at h
  · cases h
  · rename_i h1
    rw [if_neg h1]
    obtain ⟨h2, h3⟩ := rNum_inv h
    exact ⟨h2, by unfold numI; simpa using h3⟩
theorem numI_inj {a b : Int} (ha : 0 ≤ a) (hb : 0 ≤ b) (h1 : a < 9223372036854775808) (h2 : b < 9223372036854775808) (h : numI a = numI b) : a = b := by
  have e1 := rInt_numI a 9223372036854775807 ha (by omega) (by decide) []
  have e2 := rInt_numI b 9223372036854775807 hb (by omega) (by decide) []
  rw [h, e2] at e1
  exact (congrArg Prod.fst e1).symm
theorem rEnd_zero {r : Rd} : rEnd r = 0 ↔ r.torn = false ∧ r.s = [] := by
  unfold rEnd
  split
  · rename_i h
    constructor
    · intro h2; cases h2
    · rintro ⟨h1, h2⟩
      rcases h with h | h
      · rw [h1] at h; cases h
      · exact absurd h2 h
  · rename_i h
    refine ⟨fun _ => ⟨?_, ?_⟩, fun _ => rfl⟩
    · cases hh : r.torn <;> simp_all
    · exact Classical.byContradiction fun h2 => h (.inr h2)
end Go.Am
namespace Go.Am
open Go
theorem rDot_back {d : Int × Int} (h : dCheck d = true) (rest : List UInt8) : rDot ⟨dBytes d ++ rest, false⟩ = (d, ⟨rest, false⟩) := by
  have hd := (dCheck_iff d).1 h
  have e1 : rInt 1099511627776 ⟨dBytes d ++ rest, false⟩ = (d.1, ⟨numI d.2 ++ rest, false⟩) := by
    unfold dBytes
    rw [List.append_assoc]
    exact rInt_numI _ _ (by omega) (by omega) (by decide) _
  have e2 : rInt 1099511627776 ⟨numI d.2 ++ rest, false⟩ = (d.2, ⟨rest, false⟩) := rInt_numI _ _ (by omega) (by omega) (by decide) _
  have eA : (rDotA ⟨dBytes d ++ rest, false⟩).1 = d.1 := by unfold rDotA; rw [e1]
  have eB : rDotB ⟨dBytes d ++ rest, false⟩ = (d.2, ⟨rest, false⟩) := by unfold rDotB; rw [e1]; exact e2
  rw [rDot_ok (by rw [eA, eB]; exact h) (by rw [eB]), eA, eB]
theorem rText_back {s : List UInt8} {most : Int} (h : (s.length : Int) ≤ most) (hm : most < 9223372036854775808) (rest : List UInt8) : rText most ⟨text s ++ rest, false⟩ = (s, ⟨rest, false⟩) := by
  have e1 : rInt most ⟨text s ++ rest, false⟩ = ((s.length : Int), ⟨s ++ rest, false⟩) := by
    have := rInt_numI (s.length : Int) most (by omega) h hm (s ++ rest)
    unfold text
    rw [List.append_assoc]
    exact this
  rw [rText_ok (by rw [e1]) (by rw [e1]; simp; omega), e1]
  simp
section
variable {α : Type} {f : Rd → α × Rd} {w : α → List UInt8}
theorem rlGo_back : ∀ (l : List α) (out : List α) (rest : List UInt8), (∀ x ∈ l, ∀ rest, f ⟨w x ++ rest, false⟩ = (x, ⟨rest, false⟩)) → rlGo f l.length out ⟨l.flatMap w ++ rest, false⟩ = (out ++ l, ⟨rest, false⟩)
  | [], out, rest, h => by simp [rlGo]
  | x :: l, out, rest, h => by
    rw [List.length_cons, rlGo, if_neg (by simp), List.flatMap_cons, List.append_assoc, h x (by simp)]
    rw [rlGo_back l (out ++ [x]) rest (fun y hy => h y (by simp [hy]))]
    simp
theorem rdL_back {chk : List α → Bool} {most : Int} {l : List α} (hm : most < 9223372036854775808) (h : ∀ x ∈ l, ∀ rest, f ⟨w x ++ rest, false⟩ = (x, ⟨rest, false⟩)) (hc : chk l = true) (hl : (l.length : Int) ≤ most) (rest : List UInt8) :
    rdL f chk most ⟨numI l.length ++ l.flatMap w ++ rest, false⟩ = (l, ⟨rest, false⟩) := by
  have e1 : rInt most ⟨numI l.length ++ l.flatMap w ++ rest, false⟩ = ((l.length : Int), ⟨l.flatMap w ++ rest, false⟩) := by
    rw [List.append_assoc]
    exact rInt_numI _ _ (by omega) hl hm _
  have e2 : rdL0 f most ⟨numI l.length ++ l.flatMap w ++ rest, false⟩ = (l, ⟨rest, false⟩) := by
    unfold rdL0
    rw [e1]
    show rlGo f ((l.length : Int)).toNat [] _ = _
    rw [Int.toNat_natCast, rlGo_back l [] rest h]
    simp
  rw [rdL_ok (by rw [e2]) (by rw [e2]; exact hc), e2]
end
theorem rRowGo_back : ∀ (l : List (Int × Int)) (out : List (Int × Int)) (rest : List UInt8), (∀ x ∈ l, dCheck x = true) → rRowGo l.length out ⟨l.flatMap dBytes ++ rest, false⟩ = (out ++ l, ⟨rest, false⟩)
  | [], out, rest, h => by simp [rRowGo]
  | x :: l, out, rest, h => by
    rw [List.length_cons, rRowGo, if_neg (by simp), List.flatMap_cons, List.append_assoc, rDot_back (h x (by simp))]
    rw [rRowGo_back l (out ++ [x]) rest (fun y hy => h y (by simp [hy]))]
    simp
theorem rRow_back {l : List (Int × Int)} {most : Int} (hm : most < 9223372036854775808) (h : ∀ x ∈ l, dCheck x = true) (hr : dRises l = true) (hl : (l.length : Int) ≤ most) (rest : List UInt8) : rRow most ⟨rowB l ++ rest, false⟩ = (l, ⟨rest, false⟩) := by
  have e1 : rInt most ⟨rowB l ++ rest, false⟩ = ((l.length : Int), ⟨l.flatMap dBytes ++ rest, false⟩) := by
    unfold rowB
    rw [List.append_assoc]
    exact rInt_numI _ _ (by omega) hl hm _
  have e2 : rRow0 most ⟨rowB l ++ rest, false⟩ = (l, ⟨rest, false⟩) := by
    unfold rRow0
    rw [e1]
    show rRowGo ((l.length : Int)).toNat [] _ = _
    rw [Int.toNat_natCast, rRowGo_back l [] rest h]
    simp
  rw [rRow_ok (by rw [e2]; exact hr) (by rw [e2]), e2]
theorem bOk_all : ∀ {l : List (Int × Int)} {p : Option Int}, bOk p l = true → ∀ d ∈ l, dCheck d = true
  | [], p, h, d, hd => by cases hd
  | x :: l, p, h, d, hd => by
    simp only [bOk, Bool.and_eq_true] at h
    rcases List.mem_cons.1 hd with rfl | hd
    · exact h.1
    · exact bOk_all h.2.2 d hd
theorem cCheck_all {c : Ctx} (h : cCheck c = true) : dRises c.base = true ∧ dRises c.cloud = true ∧ (∀ d ∈ c.base, dCheck d = true) ∧ (∀ d ∈ c.cloud, dCheck d = true) := by
  simp only [cCheck, Bool.and_eq_true] at h
  refine ⟨h.1, h.2.1, bOk_all h.2.2.1, fun d hd => ?_⟩
  have := h.2.2.2
  simp only [kOk, List.all_eq_true, Bool.and_eq_true] at this
  exact (this d hd).1
theorem rCtx_back {c : Ctx} (h : cCheck c = true) (h1 : c.base.length ≤ 1000) (h2 : c.cloud.length ≤ 1000) (rest : List UInt8) : rCtx ⟨ctxB c ++ rest, false⟩ = (c, ⟨rest, false⟩) := by
  obtain ⟨g1, g2, g3, g4⟩ := cCheck_all h
  have e1 : rRow 1000 ⟨ctxB c ++ rest, false⟩ = (c.base, ⟨rowB c.cloud ++ rest, false⟩) := by
    unfold ctxB
    rw [List.append_assoc]
    exact rRow_back (by decide) g3 g1 (by omega) _
  have e2 : rRow 1000 ⟨rowB c.cloud ++ rest, false⟩ = (c.cloud, ⟨rest, false⟩) := rRow_back (by decide) g4 g2 (by omega) _
  have eA : rCtxA ⟨ctxB c ++ rest, false⟩ = ⟨rowB c.cloud ++ rest, false⟩ := by unfold rCtxA; rw [e1]
  have eB : rCtxB ⟨ctxB c ++ rest, false⟩ = ⟨rest, false⟩ := by unfold rCtxB; rw [eA, e2]
  have eV : rCtxV ⟨ctxB c ++ rest, false⟩ = c := by unfold rCtxV; rw [eA, e1, e2]
  unfold rCtx
  rw [eB, eV, if_neg]
  rw [h]; simp
theorem mOk_all {c : Ctx} : ∀ {l : List Msg} {p : Option (Int × Int)}, mOk c p l = true → ∀ m ∈ l, mMay m = true ∧ cHas c m.d = true
  | [], p, h, d, hd => by cases hd
  | x :: l, p, h, d, hd => by
    simp only [mOk, Bool.and_eq_true] at h
    rcases List.mem_cons.1 hd with rfl | hd
    · exact ⟨h.1, h.2.1⟩
    · exact mOk_all h.2.2.2 d hd
theorem rMsg_back {m : Msg} (h : mMay m = true) (rest : List UInt8) : rMsg ⟨mBytes m ++ rest, false⟩ = m ∧ rM4 ⟨mBytes m ++ rest, false⟩ = ⟨rest, false⟩ := by
  obtain ⟨h1, h2, h3, h4, h5, h6⟩ := (mMay_iff m).1 h
  have e1 : rDot ⟨mBytes m ++ rest, false⟩ = (m.d, ⟨text m.q ++ (text m.b ++ (numI m.c ++ rest)), false⟩) := by
    unfold mBytes
    simp only [List.append_assoc]
    exact rDot_back h1 _
  have e2 : rText 1000 ⟨text m.q ++ (text m.b ++ (numI m.c ++ rest)), false⟩ = (m.q, ⟨text m.b ++ (numI m.c ++ rest), false⟩) := rText_back (by omega) (by decide) _
  have e3 : rText 1000 ⟨text m.b ++ (numI m.c ++ rest), false⟩ = (m.b, ⟨numI m.c ++ rest, false⟩) := rText_back (by omega) (by decide) _
  have e4 : rInt 1048576 ⟨numI m.c ++ rest, false⟩ = (m.c, ⟨rest, false⟩) := rInt_numI _ _ h5 h6 (by decide) _
  have eM1 : rM1 ⟨mBytes m ++ rest, false⟩ = ⟨text m.q ++ (text m.b ++ (numI m.c ++ rest)), false⟩ := by unfold rM1; rw [e1]
  have eM2 : rM2 ⟨mBytes m ++ rest, false⟩ = ⟨text m.b ++ (numI m.c ++ rest), false⟩ := by unfold rM2; rw [eM1, e2]
  have eM3 : rM3 ⟨mBytes m ++ rest, false⟩ = ⟨numI m.c ++ rest, false⟩ := by unfold rM3; rw [eM2, e3]
  refine ⟨?_, ?_⟩
  · unfold rMsg; rw [eM1, eM2, eM3, e1, e2, e3, e4]
  · unfold rM4; rw [eM3, e4]
theorem rBagGo_back : ∀ (l : List Msg) (out : List Msg) (rest : List UInt8), (∀ x ∈ l, mMay x = true) → rBagGo l.length out ⟨l.flatMap mBytes ++ rest, false⟩ = (out ++ l, ⟨rest, false⟩)
  | [], out, rest, h => by simp [rBagGo]
  | x :: l, out, rest, h => by
    obtain ⟨e1, e2⟩ := rMsg_back (h x (by simp)) (l.flatMap mBytes ++ rest)
    rw [List.length_cons, rBagGo, if_neg (by simp), List.flatMap_cons, List.append_assoc, e1, e2]
    rw [rBagGo_back l (out ++ [x]) rest (fun y hy => h y (by simp [hy]))]
    simp
theorem rBag_back {b : Bag} (h : bCheck b = true) (h0 : b.live.length ≤ 1000) (h1 : b.ctx.base.length ≤ 1000) (h2 : b.ctx.cloud.length ≤ 1000) (rest : List UInt8) : rBag ⟨bagB b ++ rest, false⟩ = (b, ⟨rest, false⟩) := by
  have hc := h
  simp only [bCheck, Bool.and_eq_true] at hc
  have e1 : rCtx ⟨bagB b ++ rest, false⟩ = (b.ctx, ⟨numI b.live.length ++ (b.live.flatMap mBytes ++ rest), false⟩) := by
    unfold bagB
    simp only [List.append_assoc]
    exact rCtx_back hc.1 h1 h2 _
  have e2 : rInt 1000 ⟨numI b.live.length ++ (b.live.flatMap mBytes ++ rest), false⟩ = ((b.live.length : Int), ⟨b.live.flatMap mBytes ++ rest, false⟩) := rInt_numI _ _ (by omega) (by omega) (by decide) _
  have e3 : rBag0 ⟨bagB b ++ rest, false⟩ = (b.live, ⟨rest, false⟩) := by
    unfold rBag0
    rw [e1]
    show rBagGo (rInt 1000 ⟨numI b.live.length ++ (b.live.flatMap mBytes ++ rest), false⟩).1.toNat [] (rInt 1000 ⟨numI b.live.length ++ (b.live.flatMap mBytes ++ rest), false⟩).2 = _
    rw [e2]
    show rBagGo ((b.live.length : Int)).toNat [] _ = _
    rw [Int.toNat_natCast, rBagGo_back _ _ _ (fun m hm => (mOk_all hc.2 m hm).1)]
    simp
  have eV : rBagV ⟨bagB b ++ rest, false⟩ = b := by unfold rBagV; rw [e3, e1]
  rw [rBag_ok (by rw [e3]) (by rw [eV]; exact h), eV, e3]
theorem rTag_back {t : Tg} (h : tOk t = true) (rest : List UInt8) : rTag ⟨tBytes t ++ rest, false⟩ = (t, ⟨rest, false⟩) := by
  simp only [tOk, nameOk, Bool.and_eq_true, decide_eq_true_eq, Bool.not_eq_true', decide_eq_false_iff_not] at h
  have e1 : rText 100 ⟨tBytes t ++ rest, false⟩ = (t.s, ⟨numI t.n ++ rest, false⟩) := by
    unfold tBytes
    rw [List.append_assoc]
    exact rText_back (by omega) (by decide) _
  have e2 : rInt 1048576 ⟨numI t.n ++ rest, false⟩ = (t.n, ⟨rest, false⟩) := rInt_numI _ _ (by omega) (by omega) (by decide) _
  unfold rTag
  rw [e1]
  show ((⟨t.s, (rInt 1048576 ⟨numI t.n ++ rest, false⟩).1⟩ : Tg), (rInt 1048576 ⟨numI t.n ++ rest, false⟩).2) = _
  rw [e2]
theorem rPeer_back {p : Peer} (h : pMay p = true) (rest : List UInt8) : rPeer ⟨pBytes p ++ rest, false⟩ = (p, ⟨rest, false⟩) := by
  simp only [pMay, Bool.and_eq_true, decide_eq_true_eq] at h
  have e1 : rInt 1099511627776 ⟨pBytes p ++ rest, false⟩ = (p.id, ⟨numI p.inc ++ (numI p.st ++ rest), false⟩) := by
    unfold pBytes
    simp only [List.append_assoc]
    exact rInt_numI _ _ (by omega) (by omega) (by decide) _
  have e2 : rInt 1073741824 ⟨numI p.inc ++ (numI p.st ++ rest), false⟩ = (p.inc, ⟨numI p.st ++ rest, false⟩) := rInt_numI _ _ (by omega) (by omega) (by decide) _
  have e3 : rInt 2 ⟨numI p.st ++ rest, false⟩ = (p.st, ⟨rest, false⟩) := rInt_numI _ _ (by omega) (by omega) (by decide) _
  have eP1 : rPeer1 ⟨pBytes p ++ rest, false⟩ = ⟨numI p.inc ++ (numI p.st ++ rest), false⟩ := by unfold rPeer1; rw [e1]
  have eP2 : rPeer2 ⟨pBytes p ++ rest, false⟩ = ⟨numI p.st ++ rest, false⟩ := by unfold rPeer2; rw [eP1, e2]
  unfold rPeer
  rw [eP1, eP2, e1, e2, e3]
theorem rHold_back {p : Hold} (h : hMay p = true) (rest : List UInt8) : rHold ⟨hBytes p ++ rest, false⟩ = (p, ⟨rest, false⟩) := by
  simp only [hMay, Bool.and_eq_true, decide_eq_true_eq] at h
  have e1 : rDot ⟨hBytes p ++ rest, false⟩ = (p.d, ⟨numI p.r ++ (numI p.u ++ rest), false⟩) := by
    unfold hBytes
    simp only [List.append_assoc]
    exact rDot_back h.1 _
  have e2 : rInt 1099511627776 ⟨numI p.r ++ (numI p.u ++ rest), false⟩ = (p.r, ⟨numI p.u ++ rest, false⟩) := rInt_numI _ _ (by omega) (by omega) (by decide) _
  have e3 : rInt 1125899906842624 ⟨numI p.u ++ rest, false⟩ = (p.u, ⟨rest, false⟩) := rInt_numI _ _ (by omega) (by omega) (by decide) _
  have eP1 : rHold1 ⟨hBytes p ++ rest, false⟩ = ⟨numI p.r ++ (numI p.u ++ rest), false⟩ := by unfold rHold1; rw [e1]
  have eP2 : rHold2 ⟨hBytes p ++ rest, false⟩ = ⟨numI p.u ++ rest, false⟩ := by unfold rHold2; rw [eP1, e2]
  unfold rHold
  rw [eP1, eP2, e1, e2, e3]
end Go.Am
namespace Go.Am
open Go
open Nat renaming reduceEqDiff → za, reduceAdd → zb, reduceMul → zc, reducePow → zd, reduceLeDiff → ze, reduceSub → zf, reduceBEq → zg, reduceBNe → zh, reduceDiv → zi, reduceMod → zj
open Int renaming reduceLT → zk, reduceLE → zl, reduceEq → zm, reduceNe → zn, reduceToNat → zo

theorem setOb_cells {σ : Sh} {n : Nat} {r : Rd} (h : σ.ob n = some (.cells (rdV r))) : σ.setOb n (.cells (rdV r)) = σ := setOb_self h
set_option maxHeartbeats 4000000 in
theorem c133t (σ : Sh) (oid : Nat) (s : List UInt8) (hσ : σ.ob oid = some (.cells [.str s, .bool true])) : WCalls Go.Proofs.Tryz.prog 133 [.ptr oid 0] σ (.int .u64 0) (σ) := by
  refine wcalls_of_awp Go.Proofs.Tryz.func133 rfl (by decide) (Nat.le_of_ble_eq_true rfl) ?_
  intro B hB ho hob
  refine awp_region_k (fun _ => false) (by rw [hB]; rfl) fun K hK base hbase hfr => ?_
  refine tr_run ?_
  simp (disch := omega) only [go_sem, ↓reduceIte, za, zb, zc, zd, ze, zf, zg, zh, zi, zj, zk, zl, zm, zn, zo, hσ, dec_t, dec_f, ltI, leI, leN, le63, le40, le0, wrap64_id, wrapu64_id, wrap8_id]
  refine tr_nil (hK _ _ _ ?_)
  clear hK K hbase hfr base
  refine awp_scope ?_
  refine awp_seq ?_
  refine awp_region_k (fun _ => false) (by rw [hB]; rfl) fun K hK base hbase hfr => ?_
  refine tr_run ?_
  simp (disch := omega) only [go_sem, ↓reduceIte, za, zb, zc, zd, ze, zf, zg, zh, zi, zj, zk, zl, zm, zn, zo, hσ, dec_t, dec_f, ltI, leI, leN, le63, le40, le0, wrap64_id, wrapu64_id, wrap8_id]
  refine tr_wc (by rfl) (by simp only [go_sem, ↓reduceIte, za, zb, zc, zd, ze, zf, zg, zh, zi, zj, zk, zl, zm, zn, zo, hσ] <;> rfl) (c94 σ oid ⟨s, true⟩ hσ) ?_
  simp (disch := omega) only [go_sem, ↓reduceIte, za, zb, zc, zd, ze, zf, zg, zh, zi, zj, zk, zl, zm, zn, zo, hσ, dec_t, dec_f, ltI, leI, leN, le63, le40, le0, wrap64_id, wrapu64_id, wrap8_id]
  refine tr_nil (hK _ _ _ ?_)
  clear hK K hbase hfr base
  refine awp_cond (rfl) (fun h1 => ?_) (fun h1 => by cases h1)
  refine awp_region_k (fun _ => false) (by rw [hB]; rfl) fun K hK base hbase hfr => ?_
  refine tr_run ?_
  simp (disch := omega) only [go_sem, ↓reduceIte, za, zb, zc, zd, ze, zf, zg, zh, zi, zj, zk, zl, zm, zn, zo, hσ, dec_t, dec_f, ltI, leI, leN, le63, le40, le0, wrap64_id, wrapu64_id, wrap8_id]
  refine tr_nil (hK _ _ _ ?_)
  clear hK K hbase hfr base
  refine awp_ret ?_
  refine then_r ?_
  refine scope_r ?_
  refine ⟨_, rfl, ?_, fun _ _ h => h, fun _ h => h⟩
  exact VW.refl _

theorem c133 (σ : Sh) (oid : Nat) (r : Rd) (hσ : σ.ob oid = some (.cells (rdV r))) : WCalls Go.Proofs.Tryz.prog 133 [.ptr oid 0] σ (.int .u64 (rNum r).1) (σ.setOb oid (.cells (rdV (rNum r).2))) := by
  obtain ⟨s, t⟩ := r
  cases t with
  | false => exact c133f σ oid s hσ
  | true =>
    rw [rNum_torn]
    have := setOb_self hσ
    rw [this]
    exact c133t σ oid s hσ
theorem rNum_torn0 (r : Rd) (h : (rNum r).2.torn = true) : (rNum r).1 = 0 := by
  obtain ⟨s, t⟩ := r
  cases t with
  | true => rw [rNum_torn]
  | false =>
    cases h1 : rdGo s 0 0 with
    | none => rw [rNum_none h1]
    | some x => obtain ⟨n, rest⟩ := x; rw [rNum_some h1] at h; cases h
theorem rInt_ok' {most : Int} {r : Rd} (h1 : ¬ most < ((rNum r).1 : Int)) : rInt most r = (((rNum r).1 : Int), (rNum r).2) := by
  cases h2 : (rNum r).2.torn with
  | false => exact rInt_ok h1 h2
  | true =>
    rw [rInt_bad (.inr h2), rNum_torn0 r h2]
    rw [show (⟨(rNum r).2.s, true⟩ : Rd) = (rNum r).2 by rw [← h2]]
    rfl
set_option maxHeartbeats 4000000 in
theorem c80 (σ : Sh) (oid : Nat) (r : Rd) (most : Int) (h0 : 0 ≤ most) (h63 : I63 most) (hσ : σ.ob oid = some (.cells (rdV r))) : WCalls Go.Proofs.Tryz.prog 80 [.ptr oid 0, .int .i64 most] σ (.int .i64 (rInt most r).1) (σ.setOb oid (.cells (rdV (rInt most r).2))) := by
  unfold I63 at h63
  have hlt := rNum_lt r
  have hneg : decide (most < 0) = false := decide_eq_false (by omega)
  refine wcalls_of_awp Go.Proofs.Tryz.func80 rfl (by decide) (Nat.le_of_ble_eq_true rfl) ?_
  intro B hB ho hob
  refine awp_region_k (fun _ => false) (by rw [hB]; rfl) fun K hK base hbase hfr => ?_
  refine tr_run ?_
  simp (disch := omega) only [go_sem, ↓reduceIte, za, zb, zc, zd, ze, zf, zg, zh, zi, zj, zk, zl, zm, zn, zo, dec_t, dec_f, ltI, leI, leN, le63, le40, le0, wrap64_id, wrapu64_id, wrap8_id]
  refine tr_nil (hK _ _ _ ?_)
  clear hK K hbase hfr base
  refine awp_region_k (fun _ => false) (by rw [hB]; rfl) fun K hK base hbase hfr => ?_
  refine tr_run ?_
  simp (disch := omega) only [go_sem, ↓reduceIte, za, zb, zc, zd, ze, zf, zg, zh, zi, zj, zk, zl, zm, zn, zo, dec_t, dec_f, ltI, leI, leN, le63, le40, le0, wrap64_id, wrapu64_id, wrap8_id]
  refine tr_wc (by rfl) (by simp only [go_sem, ↓reduceIte, za, zb, zc, zd, ze, zf, zg, zh, zi, zj, zk, zl, zm, zn, zo] <;> rfl) (c133 σ oid r hσ) ?_
  simp (disch := omega) only [go_sem, ↓reduceIte, za, zb, zc, zd, ze, zf, zg, zh, zi, zj, zk, zl, zm, zn, zo, dec_t, dec_f, ltI, leI, leN, le63, le40, le0, wrap64_id, wrapu64_id, wrap8_id]
  refine tr_nil (hK _ _ _ ?_)
  clear hK K hbase hfr base
  refine awp_seq ?_
  refine awp_region_k (fun _ => false) (by rw [hB]; rfl) fun K hK base hbase hfr => ?_
  refine tr_run ?_
  simp (disch := omega) only [go_sem, ↓reduceIte, za, zb, zc, zd, ze, zf, zg, zh, zi, zj, zk, zl, zm, zn, zo, hneg, dec_t, dec_f, ltI, leI, leN, le63, le40, le0, wrap64_id, wrapu64_id, wrap8_id]
  refine tr_nil (hK _ _ _ ?_)
  clear hK K hbase hfr base
  refine awp_cond (rfl) (fun h1 => ?_) (fun h1 => ?_)
  · try simp only [yb, yc, yd, ye, yf, yg, yh, yi, yj, yk, yl, ym, yn, yo] at h1
    have hc : most < ((rNum r).1 : Int) := by omega
    refine awp_region_k (fun _ => false) (by rw [hB]; rfl) fun K hK base hbase hfr => ?_
    refine tr_run ?_
    simp (disch := omega) only [go_sem, ↓reduceIte, za, zb, zc, zd, ze, zf, zg, zh, zi, zj, zk, zl, zm, zn, zo, dec_t, dec_f, ltI, leI, leN, le63, le40, le0, wrap64_id, wrapu64_id, wrap8_id]
    refine tr_wc (by rfl) (by simp only [go_sem, ↓reduceIte, za, zb, zc, zd, ze, zf, zg, zh, zi, zj, zk, zl, zm, zn, zo] <;> rfl) (c134 _ oid (rNum r).2 (setOb_same _ _ _)) ?_
    simp (disch := omega) only [go_sem, ↓reduceIte, za, zb, zc, zd, ze, zf, zg, zh, zi, zj, zk, zl, zm, zn, zo, dec_t, dec_f, ltI, leI, leN, le63, le40, le0, wrap64_id, wrapu64_id, wrap8_id]
    refine tr_nil (hK _ _ _ ?_)
    clear hK K hbase hfr base
    refine awp_region_k (fun _ => false) (by rw [hB]; rfl) fun K hK base hbase hfr => ?_
    refine tr_run ?_
    simp (disch := omega) only [go_sem, ↓reduceIte, za, zb, zc, zd, ze, zf, zg, zh, zi, zj, zk, zl, zm, zn, zo, dec_t, dec_f, ltI, leI, leN, le63, le40, le0, wrap64_id, wrapu64_id, wrap8_id]
    refine tr_nil (hK _ _ _ ?_)
    clear hK K hbase hfr base
    refine awp_ret ?_
    refine then_r ?_
    rw [rInt_bad (.inl hc)]
    exact ⟨_, rfl, VW.refl _, fun _ _ h => h, fun _ h => h⟩
  · try simp only [yb, yc, yd, ye, yf, yg, yh, yi, yj, yk, yl, ym, yn, yo] at h1
    have hc : ¬ most < ((rNum r).1 : Int) := by omega
    refine awp_skip ?_
    refine then_n ?_
    refine awp_region_k (fun _ => false) (by rw [hB]; rfl) fun K hK base hbase hfr => ?_
    refine tr_run ?_
    simp (disch := omega) only [go_sem, ↓reduceIte, za, zb, zc, zd, ze, zf, zg, zh, zi, zj, zk, zl, zm, zn, zo, dec_t, dec_f, ltI, leI, leN, le63, le40, le0, wrap64_id, wrapu64_id, wrap8_id]
    refine tr_nil (hK _ _ _ ?_)
    clear hK K hbase hfr base
    refine awp_ret ?_
    rw [rInt_ok' hc]
    exact ⟨_, rfl, VW.refl _, fun _ _ h => h, fun _ h => h⟩
set_option maxHeartbeats 4000000 in
theorem c80m (σ : Sh) (oid : Nat) (r : Rd) (hσ : σ.ob oid = some (.cells (rdV r))) : WCalls Go.Proofs.Tryz.prog 80 [.ptr oid 0, .int .i64 (-1)] σ (.int .i64 0) (σ.setOb oid (.cells (rdV ⟨(rNum r).2.s, true⟩))) := by
  refine wcalls_of_awp Go.Proofs.Tryz.func80 rfl (by decide) (Nat.le_of_ble_eq_true rfl) ?_
  intro B hB ho hob
  refine awp_region_k (fun _ => false) (by rw [hB]; rfl) fun K hK base hbase hfr => ?_
  refine tr_run ?_
  simp (disch := omega) only [go_sem, ↓reduceIte, za, zb, zc, zd, ze, zf, zg, zh, zi, zj, zk, zl, zm, zn, zo, dec_t, dec_f, ltI, leI, leN, le63, le40, le0, wrap64_id, wrapu64_id, wrap8_id]
  refine tr_nil (hK _ _ _ ?_)
  clear hK K hbase hfr base
  refine awp_region_k (fun _ => false) (by rw [hB]; rfl) fun K hK base hbase hfr => ?_
  refine tr_run ?_
  simp (disch := omega) only [go_sem, ↓reduceIte, za, zb, zc, zd, ze, zf, zg, zh, zi, zj, zk, zl, zm, zn, zo, dec_t, dec_f, ltI, leI, leN, le63, le40, le0, wrap64_id, wrapu64_id, wrap8_id]
  refine tr_wc (by rfl) (by simp only [go_sem, ↓reduceIte, za, zb, zc, zd, ze, zf, zg, zh, zi, zj, zk, zl, zm, zn, zo] <;> rfl) (c133 σ oid r hσ) ?_
  simp (disch := omega) only [go_sem, ↓reduceIte, za, zb, zc, zd, ze, zf, zg, zh, zi, zj, zk, zl, zm, zn, zo, dec_t, dec_f, ltI, leI, leN, le63, le40, le0, wrap64_id, wrapu64_id, wrap8_id]
  refine tr_nil (hK _ _ _ ?_)
  clear hK K hbase hfr base
  refine awp_seq ?_
  refine awp_region_k (fun _ => false) (by rw [hB]; rfl) fun K hK base hbase hfr => ?_
  refine tr_run ?_
  simp (disch := omega) only [go_sem, ↓reduceIte, za, zb, zc, zd, ze, zf, zg, zh, zi, zj, zk, zl, zm, zn, zo, dec_t, dec_f, ltI, leI, leN, le63, le40, le0, wrap64_id, wrapu64_id, wrap8_id]
  refine tr_nil (hK _ _ _ ?_)
  clear hK K hbase hfr base
  refine awp_cond (rfl) (fun h1 => ?_) (fun h1 => by cases h1)
  refine awp_region_k (fun _ => false) (by rw [hB]; rfl) fun K hK base hbase hfr => ?_
  refine tr_run ?_
  simp (disch := omega) only [go_sem, ↓reduceIte, za, zb, zc, zd, ze, zf, zg, zh, zi, zj, zk, zl, zm, zn, zo, dec_t, dec_f, ltI, leI, leN, le63, le40, le0, wrap64_id, wrapu64_id, wrap8_id]
  refine tr_wc (by rfl) (by simp only [go_sem, ↓reduceIte, za, zb, zc, zd, ze, zf, zg, zh, zi, zj, zk, zl, zm, zn, zo] <;> rfl) (c134 _ oid (rNum r).2 (setOb_same _ _ _)) ?_
  simp (disch := omega) only [go_sem, ↓reduceIte, za, zb, zc, zd, ze, zf, zg, zh, zi, zj, zk, zl, zm, zn, zo, dec_t, dec_f, ltI, leI, leN, le63, le40, le0, wrap64_id, wrapu64_id, wrap8_id]
  refine tr_nil (hK _ _ _ ?_)
  clear hK K hbase hfr base
  refine awp_region_k (fun _ => false) (by rw [hB]; rfl) fun K hK base hbase hfr => ?_
  refine tr_run ?_
  simp (disch := omega) only [go_sem, ↓reduceIte, za, zb, zc, zd, ze, zf, zg, zh, zi, zj, zk, zl, zm, zn, zo, dec_t, dec_f, ltI, leI, leN, le63, le40, le0, wrap64_id, wrapu64_id, wrap8_id]
  refine tr_nil (hK _ _ _ ?_)
  clear hK K hbase hfr base
  refine awp_ret ?_
  refine then_r ?_
  refine ⟨_, rfl, ?_, fun _ _ h => h, fun _ h => h⟩
  exact VW.refl _
set_option maxHeartbeats 4000000 in
theorem c40 (σ : Sh) (oid : Nat) (r : Rd) (hσ : σ.ob oid = some (.cells (rdV r))) : WCalls Go.Proofs.Tryz.prog 40 [.ptr oid 0] σ (.int .i64 (rEnd r)) (σ) := by
  have hσ2 := hσ
  unfold rdV at hσ2
  refine wcalls_of_awp Go.Proofs.Tryz.func40 rfl (by decide) (Nat.le_of_ble_eq_true rfl) ?_
  intro B hB ho hob
  refine awp_region_k (fun _ => false) (by rw [hB]; rfl) fun K hK base hbase hfr => ?_
  refine tr_run ?_
  simp (disch := omega) only [go_sem, ↓reduceIte, za, zb, zc, zd, ze, zf, zg, zh, zi, zj, zk, zl, zm, zn, zo, hσ2, dec_t, dec_f, ltI, leI, leN, le63, le40, le0, wrap64_id, wrapu64_id, wrap8_id]
  refine tr_nil (hK _ _ _ ?_)
  clear hK K hbase hfr base
  refine awp_seq ?_
  refine awp_region_k (fun _ => false) (by rw [hB]; rfl) fun K hK base hbase hfr => ?_
  rcases q1 : r.torn with _ | _
  · skip
    refine tr_run ?_
    simp (disch := omega) only [go_sem, ↓reduceIte, za, zb, zc, zd, ze, zf, zg, zh, zi, zj, zk, zl, zm, zn, zo, hσ2, q1, dec_t, dec_f, ltI, leI, leN, le63, le40, le0, wrap64_id, wrapu64_id, wrap8_id]
    refine tr_wc (by rfl) (by simp only [go_sem, ↓reduceIte, za, zb, zc, zd, ze, zf, zg, zh, zi, zj, zk, zl, zm, zn, zo, hσ2, q1] <;> rfl) (c94 σ oid r hσ) ?_
    simp (disch := omega) only [go_sem, ↓reduceIte, za, zb, zc, zd, ze, zf, zg, zh, zi, zj, zk, zl, zm, zn, zo, hσ2, q1, dec_t, dec_f, ltI, leI, leN, le63, le40, le0, wrap64_id, wrapu64_id, wrap8_id]
    refine tr_nil (hK _ _ _ ?_)
    clear hK K hbase hfr base
    try simp only [yb, yc, yd, ye, yf, yg, yh, yi, yj, yk, yl, ym, yn, yo] at q1
    refine awp_cond (rfl) (fun h2 => ?_) (fun h2 => ?_)
    · try simp only [yb, yc, yd, ye, yf, yg, yh, yi, yj, yk, yl, ym, yn, yo] at h2
      refine awp_region_k (fun _ => false) (by rw [hB]; rfl) fun K hK base hbase hfr => ?_
      refine tr_run ?_
      simp (disch := omega) only [go_sem, ↓reduceIte, za, zb, zc, zd, ze, zf, zg, zh, zi, zj, zk, zl, zm, zn, zo, hσ2, dec_t, dec_f, ltI, leI, leN, le63, le40, le0, wrap64_id, wrapu64_id, wrap8_id]
      refine tr_nil (hK _ _ _ ?_)
      clear hK K hbase hfr base
      refine awp_ret ?_
      refine then_r ?_
      refine ⟨_, rfl, ?_, fun _ _ h => h, fun _ h => h⟩
      unfold rEnd; rw [if_pos (.inr (by assumption))]; exact VW.refl _
    · try simp only [yb, yc, yd, ye, yf, yg, yh, yi, yj, yk, yl, ym, yn, yo] at h2
      refine awp_skip ?_
      refine then_n ?_
      refine awp_region_k (fun _ => false) (by rw [hB]; rfl) fun K hK base hbase hfr => ?_
      refine tr_run ?_
      simp (disch := omega) only [go_sem, ↓reduceIte, za, zb, zc, zd, ze, zf, zg, zh, zi, zj, zk, zl, zm, zn, zo, hσ2, dec_t, dec_f, ltI, leI, leN, le63, le40, le0, wrap64_id, wrapu64_id, wrap8_id]
      refine tr_nil (hK _ _ _ ?_)
      clear hK K hbase hfr base
      refine awp_ret ?_
      refine ⟨_, rfl, ?_, fun _ _ h => h, fun _ h => h⟩
      unfold rEnd
      rw [if_neg (by rintro (h | h) <;> simp_all)]
      exact VW.refl _
  · skip
    refine tr_run ?_
    simp (disch := omega) only [go_sem, ↓reduceIte, za, zb, zc, zd, ze, zf, zg, zh, zi, zj, zk, zl, zm, zn, zo, hσ2, q1, dec_t, dec_f, ltI, leI, leN, le63, le40, le0, wrap64_id, wrapu64_id, wrap8_id]
    refine tr_wc (by rfl) (by simp only [go_sem, ↓reduceIte, za, zb, zc, zd, ze, zf, zg, zh, zi, zj, zk, zl, zm, zn, zo, hσ2, q1] <;> rfl) (c94 σ oid r hσ) ?_
    simp (disch := omega) only [go_sem, ↓reduceIte, za, zb, zc, zd, ze, zf, zg, zh, zi, zj, zk, zl, zm, zn, zo, hσ2, q1, dec_t, dec_f, ltI, leI, leN, le63, le40, le0, wrap64_id, wrapu64_id, wrap8_id]
    refine tr_nil (hK _ _ _ ?_)
    clear hK K hbase hfr base
    try simp only [yb, yc, yd, ye, yf, yg, yh, yi, yj, yk, yl, ym, yn, yo] at q1
    refine awp_cond (rfl) (fun h3 => ?_) (fun h3 => by cases h3)
    refine awp_region_k (fun _ => false) (by rw [hB]; rfl) fun K hK base hbase hfr => ?_
    refine tr_run ?_
    simp (disch := omega) only [go_sem, ↓reduceIte, za, zb, zc, zd, ze, zf, zg, zh, zi, zj, zk, zl, zm, zn, zo, hσ2, dec_t, dec_f, ltI, leI, leN, le63, le40, le0, wrap64_id, wrapu64_id, wrap8_id]
    refine tr_nil (hK _ _ _ ?_)
    clear hK K hbase hfr base
    refine awp_ret ?_
    refine then_r ?_
    refine ⟨_, rfl, ?_, fun _ _ h => h, fun _ h => h⟩
    unfold rEnd; rw [if_pos (.inl (by assumption))]; exact VW.refl _
set_option maxHeartbeats 4000000 in
theorem c137 (σ : Sh) (oid : Nat) (r : Rd) (most : Int) (h0 : 0 ≤ most) (h63 : I63 most) (hσ : σ.ob oid = some (.cells (rdV r))) : WCalls Go.Proofs.Tryz.prog 137 [.ptr oid 0, .int .i64 most] σ (.str (rText most r).1) (σ.setOb oid (.cells (rdV (rText most r).2))) := by
  obtain ⟨hge, hle⟩ := rInt_le most r h0
  refine wcalls_of_awp Go.Proofs.Tryz.func137 rfl (by decide) (Nat.le_of_ble_eq_true rfl) ?_
  intro B hB ho hob
  refine awp_region_k (fun _ => false) (by rw [hB]; rfl) fun K hK base hbase hfr => ?_
  refine tr_run ?_
  simp (disch := omega) only [go_sem, ↓reduceIte, za, zb, zc, zd, ze, zf, zg, zh, zi, zj, zk, zl, zm, zn, zo, dec_t, dec_f, ltI, leI, leN, le63, le40, le0, wrap64_id, wrapu64_id, wrap8_id]
  refine tr_nil (hK _ _ _ ?_)
  clear hK K hbase hfr base
  refine awp_region_k (fun _ => false) (by rw [hB]; rfl) fun K hK base hbase hfr => ?_
  refine tr_run ?_
  simp (disch := omega) only [go_sem, ↓reduceIte, za, zb, zc, zd, ze, zf, zg, zh, zi, zj, zk, zl, zm, zn, zo, dec_t, dec_f, ltI, leI, leN, le63, le40, le0, wrap64_id, wrapu64_id, wrap8_id]
  refine tr_wc (by rfl) (by simp only [go_sem, ↓reduceIte, za, zb, zc, zd, ze, zf, zg, zh, zi, zj, zk, zl, zm, zn, zo] <;> rfl) (c80 σ oid r most h0 h63 hσ) ?_
  simp (disch := omega) only [go_sem, ↓reduceIte, za, zb, zc, zd, ze, zf, zg, zh, zi, zj, zk, zl, zm, zn, zo, dec_t, dec_f, ltI, leI, leN, le63, le40, le0, wrap64_id, wrapu64_id, wrap8_id]
  refine tr_nil (hK _ _ _ ?_)
  clear hK K hbase hfr base
  refine awp_seq ?_
  refine awp_region_k (fun _ => false) (by rw [hB]; rfl) fun K hK base hbase hfr => ?_
  rcases q1 : (rInt most r).2.torn with _ | _
  · skip
    refine tr_run ?_
    simp (disch := omega) only [go_sem, ↓reduceIte, za, zb, zc, zd, ze, zf, zg, zh, zi, zj, zk, zl, zm, zn, zo, q1, dec_t, dec_f, ltI, leI, leN, le63, le40, le0, wrap64_id, wrapu64_id, wrap8_id]
    refine tr_wc (by rfl) (by simp only [go_sem, ↓reduceIte, za, zb, zc, zd, ze, zf, zg, zh, zi, zj, zk, zl, zm, zn, zo, q1] <;> rfl) (c94 _ oid ⟨(rInt most r).2.s, false⟩ (setOb_same _ _ _)) ?_
    simp (disch := omega) only [go_sem, ↓reduceIte, za, zb, zc, zd, ze, zf, zg, zh, zi, zj, zk, zl, zm, zn, zo, q1, dec_t, dec_f, ltI, leI, leN, le63, le40, le0, wrap64_id, wrapu64_id, wrap8_id]
    refine tr_nil (hK _ _ _ ?_)
    clear hK K hbase hfr base
    try simp only [yb, yc, yd, ye, yf, yg, yh, yi, yj, yk, yl, ym, yn, yo] at q1
    refine awp_cond (rfl) (fun h2 => ?_) (fun h2 => ?_)
    · try simp only [yb, yc, yd, ye, yf, yg, yh, yi, yj, yk, yl, ym, yn, yo] at h2
      refine awp_region_k (fun _ => false) (by rw [hB]; rfl) fun K hK base hbase hfr => ?_
      refine tr_run ?_
      simp (disch := omega) only [go_sem, ↓reduceIte, za, zb, zc, zd, ze, zf, zg, zh, zi, zj, zk, zl, zm, zn, zo, dec_t, dec_f, ltI, leI, leN, le63, le40, le0, wrap64_id, wrapu64_id, wrap8_id]
      refine tr_wc (by rfl) (by simp only [go_sem, ↓reduceIte, za, zb, zc, zd, ze, zf, zg, zh, zi, zj, zk, zl, zm, zn, zo] <;> rfl) (c134 _ oid ⟨(rInt most r).2.s, false⟩ (setOb_same _ _ _)) ?_
      simp (disch := omega) only [go_sem, ↓reduceIte, za, zb, zc, zd, ze, zf, zg, zh, zi, zj, zk, zl, zm, zn, zo, dec_t, dec_f, ltI, leI, leN, le63, le40, le0, wrap64_id, wrapu64_id, wrap8_id]
      refine tr_nil (hK _ _ _ ?_)
      clear hK K hbase hfr base
      refine awp_region_k (fun _ => false) (by rw [hB]; rfl) fun K hK base hbase hfr => ?_
      refine tr_run ?_
      simp (disch := omega) only [go_sem, ↓reduceIte, za, zb, zc, zd, ze, zf, zg, zh, zi, zj, zk, zl, zm, zn, zo, dec_t, dec_f, ltI, leI, leN, le63, le40, le0, wrap64_id, wrapu64_id, wrap8_id]
      refine tr_nil (hK _ _ _ ?_)
      clear hK K hbase hfr base
      refine awp_ret ?_
      refine then_r ?_
      rw [rText_bad (.inr (by assumption))]
      exact ⟨_, rfl, VW.refl _, fun _ _ h => h, fun _ h => h⟩
    · try simp only [yb, yc, yd, ye, yf, yg, yh, yi, yj, yk, yl, ym, yn, yo] at h2
      refine awp_skip ?_
      refine then_n ?_
      refine awp_region_k (fun _ => false) (by rw [hB]; rfl) fun K hK base hbase hfr => ?_
      refine tr_run ?_
      simp (disch := omega) only [go_sem, ↓reduceIte, za, zb, zc, zd, ze, zf, zg, zh, zi, zj, zk, zl, zm, zn, zo, dec_t, dec_f, ltI, leI, leN, le63, le40, le0, wrap64_id, wrapu64_id, wrap8_id]
      refine tr_nil (hK _ _ _ ?_)
      clear hK K hbase hfr base
      refine awp_region_k (fun _ => false) (by rw [hB]; rfl) fun K hK base hbase hfr => ?_
      refine tr_run ?_
      simp (disch := omega) only [go_sem, ↓reduceIte, za, zb, zc, zd, ze, zf, zg, zh, zi, zj, zk, zl, zm, zn, zo, dec_t, dec_f, ltI, leI, leN, le63, le40, le0, wrap64_id, wrapu64_id, wrap8_id]
      refine tr_nil (hK _ _ _ ?_)
      clear hK K hbase hfr base
      refine awp_region_k (fun _ => false) (by rw [hB]; rfl) fun K hK base hbase hfr => ?_
      refine tr_run ?_
      simp (disch := omega) only [go_sem, ↓reduceIte, za, zb, zc, zd, ze, zf, zg, zh, zi, zj, zk, zl, zm, zn, zo, dec_t, dec_f, ltI, leI, leN, le63, le40, le0, wrap64_id, wrapu64_id, wrap8_id]
      refine tr_nil (hK _ _ _ ?_)
      clear hK K hbase hfr base
      refine awp_ret ?_
      rw [rText_ok (by assumption) (by assumption)]
      exact ⟨_, rfl, VW.refl _, fun _ _ h => h, fun _ h => h⟩
  · skip
    refine tr_run ?_
    simp (disch := omega) only [go_sem, ↓reduceIte, za, zb, zc, zd, ze, zf, zg, zh, zi, zj, zk, zl, zm, zn, zo, q1, dec_t, dec_f, ltI, leI, leN, le63, le40, le0, wrap64_id, wrapu64_id, wrap8_id]
    refine tr_wc (by rfl) (by simp only [go_sem, ↓reduceIte, za, zb, zc, zd, ze, zf, zg, zh, zi, zj, zk, zl, zm, zn, zo, q1] <;> rfl) (c94 _ oid ⟨(rInt most r).2.s, true⟩ (setOb_same _ _ _)) ?_
    simp (disch := omega) only [go_sem, ↓reduceIte, za, zb, zc, zd, ze, zf, zg, zh, zi, zj, zk, zl, zm, zn, zo, q1, dec_t, dec_f, ltI, leI, leN, le63, le40, le0, wrap64_id, wrapu64_id, wrap8_id]
    refine tr_nil (hK _ _ _ ?_)
    clear hK K hbase hfr base
    try simp only [yb, yc, yd, ye, yf, yg, yh, yi, yj, yk, yl, ym, yn, yo] at q1
    refine awp_cond (rfl) (fun h3 => ?_) (fun h3 => by cases h3)
    refine awp_region_k (fun _ => false) (by rw [hB]; rfl) fun K hK base hbase hfr => ?_
    refine tr_run ?_
    simp (disch := omega) only [go_sem, ↓reduceIte, za, zb, zc, zd, ze, zf, zg, zh, zi, zj, zk, zl, zm, zn, zo, dec_t, dec_f, ltI, leI, leN, le63, le40, le0, wrap64_id, wrapu64_id, wrap8_id]
    refine tr_wc (by rfl) (by simp only [go_sem, ↓reduceIte, za, zb, zc, zd, ze, zf, zg, zh, zi, zj, zk, zl, zm, zn, zo] <;> rfl) (c134 _ oid ⟨(rInt most r).2.s, true⟩ (setOb_same _ _ _)) ?_
    simp (disch := omega) only [go_sem, ↓reduceIte, za, zb, zc, zd, ze, zf, zg, zh, zi, zj, zk, zl, zm, zn, zo, dec_t, dec_f, ltI, leI, leN, le63, le40, le0, wrap64_id, wrapu64_id, wrap8_id]
    refine tr_nil (hK _ _ _ ?_)
    clear hK K hbase hfr base
    refine awp_region_k (fun _ => false) (by rw [hB]; rfl) fun K hK base hbase hfr => ?_
    refine tr_run ?_
    simp (disch := omega) only [go_sem, ↓reduceIte, za, zb, zc, zd, ze, zf, zg, zh, zi, zj, zk, zl, zm, zn, zo, dec_t, dec_f, ltI, leI, leN, le63, le40, le0, wrap64_id, wrapu64_id, wrap8_id]
    refine tr_nil (hK _ _ _ ?_)
    clear hK K hbase hfr base
    refine awp_ret ?_
    refine then_r ?_
    rw [rText_bad (.inl (by assumption))]
    exact ⟨_, rfl, VW.refl _, fun _ _ h => h, fun _ h => h⟩
set_option maxHeartbeats 4000000 in
theorem c38 (σ : Sh) (s : List UInt8) : ACalls Go.Proofs.Tryz.prog 38 [.str s] σ (fun r σ' => ∃ a, σ.ob a = none ∧ r = .ptr a 0 ∧ σ' = σ.setOb a (.cells (rdV ⟨s, false⟩))) := by
  refine acalls_of_awp Go.Proofs.Tryz.func38 rfl (by decide) (Nat.le_of_ble_eq_true rfl) ?_
  intro B hB hBσ hlv hob
  refine awp_region_k (fun k => k == 5) (by rw [hB]; rfl) fun K hK base hbase hfr => ?_
  refine tr_run ?_
  simp (disch := omega) only [go_sem, ↓reduceIte, za, zb, zc, zd, ze, zf, zg, zh, zi, zj, zk, zl, zm, zn, zo, dec_t, dec_f, ltI, leI, leN, le63, le40, le0, wrap64_id, wrapu64_id, wrap8_id]
  refine tr_nil (hK _ _ _ ?_)
  clear hK K hbase hfr base
  refine awp_region_k (fun k => k == 5) (by rw [hB]; rfl) fun K hK base hbase hfr => ?_
  refine tr_run ?_
  simp (disch := omega) only [go_sem, ↓reduceIte, za, zb, zc, zd, ze, zf, zg, zh, zi, zj, zk, zl, zm, zn, zo, dec_t, dec_f, ltI, leI, leN, le63, le40, le0, wrap64_id, wrapu64_id, wrap8_id]
  refine tr_nil (hK _ _ _ ?_)
  clear hK K hfr
  refine awp_ret ?_
  exact ⟨_, _, rfl, fun _ _ h => h, fun _ h => h, _, hob _ (by omega), rfl, rfl⟩
end Go.Am
