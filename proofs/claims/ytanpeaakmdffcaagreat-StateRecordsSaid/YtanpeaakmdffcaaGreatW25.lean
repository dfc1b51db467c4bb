/- What functions of this program compute, a part: see the main text. No conditions. -/
import Derived.Test.YtanpeaakmdffcaaGreatW24
set_option linter.all false
set_option maxRecDepth 100000
namespace Go.Am
open Go
open Nat renaming reduceEqDiff → za, reduceAdd → zb, reduceMul → zc, reducePow → zd, reduceLeDiff → ze, reduceSub → zf, reduceBEq → zg, reduceBNe → zh, reduceDiv → zi, reduceMod → zj
open Int renaming reduceLT → zk, reduceLE → zl, reduceEq → zm, reduceNe → zn, reduceToNat → zo

theorem band_le (x c : Int) (h0 : 0 ≤ c) (hc : c < 4611686018427387904) : 0 ≤ bits .and .i64 x c ∧ bits .and .i64 x c ≤ c := by
  have h1 : (BitVec.ofInt 64 x &&& BitVec.ofInt 64 c).toNat ≤ c.toNat := by
    rw [BitVec.toNat_and]
    refine Nat.le_trans Nat.and_le_right ?_
    rw [BitVec.toNat_ofInt]
    omega
  have h2 : bits .and .i64 x c = ((BitVec.ofInt 64 x &&& BitVec.ofInt 64 c).toNat : Int) := by
    have e : bits .and .i64 x c = IntKind.i64.wrap ((BitVec.ofInt 64 x &&& BitVec.ofInt 64 c).toNat : Int) := rfl
    rw [e, wrap64_id (by omega) (by omega)]
  omega
theorem mn2 : min 2 64 = 2 := rfl
theorem mn4 : min 4 64 = 4 := rfl
theorem mn5 : min 5 64 = 5 := rfl
theorem mn7 : min 7 64 = 7 := rfl
structure Rc where
  k : Int
  n : Int
  p : Int
  raw : List UInt8
def rcV (x : Rc) : AV := .agg [.int .i64 x.k, .int .i64 x.n, .int .i64 x.p, .str x.raw]
attribute [go_sem] rcV
def rcDot (n : Int) : Int × Int := (1 + bits .and .i64 n 3, 1 + bits .and .i64 (n.fdiv 4) 7)
def rcMsg (n : Int) : Msg := ⟨rcDot n, [113], [], bits .and .i64 (n.fdiv 32) 3⟩
def rcTag (n : Int) : Tg := ⟨[UInt8.ofNat (97 + bits .and .i64 n 3).toNat], 1 + bits .and .i64 (n.fdiv 4) 7⟩
def rcPeer (n : Int) : Peer := ⟨1 + bits .and .i64 n 3, bits .and .i64 (n.fdiv 4) 3, bits .and .i64 (n.fdiv 16) 1⟩
def rcHold (n : Int) : Hold := ⟨rcDot n, 1 + bits .and .i64 (n.fdiv 32) 3, 1 + bits .and .i64 (n.fdiv 128) 31⟩
def rcText (x : Rc) : List UInt8 :=
  if bits .and .i64 x.k 7 = 0 then 73 :: numI (bits .and .i64 x.n 3)
  else if bits .and .i64 x.k 7 = 1 then 82 :: numI (if x.n < 0 then 0 else x.n)
  else if bits .and .i64 x.k 7 = 2 then 66 :: (numI (bits .and .i64 x.p 15) ++ bagB (bPut bag0 (rcMsg x.n)).1)
  else if bits .and .i64 x.k 7 = 3 then 66 :: (numI (bits .and .i64 x.p 15) ++ bagB (bRemove bag0 (rcDot x.n)).1)
  else if bits .and .i64 x.k 7 = 4 then 78 :: tgsB [rcTag x.n]
  else if bits .and .i64 x.k 7 = 5 then 86 :: peersB [rcPeer x.n]
  else if bits .and .i64 x.k 7 = 6 then 72 :: holdsB [rcHold x.n]
  else if (60 : Int) < (x.raw.length : Int) then x.raw.take 60 else x.raw
def ctxOne (d : Int × Int) : Ctx := if d.2 = 1 then ⟨[(d.1, 1)], []⟩ else ⟨[], [d]⟩
theorem dSort_one (d : Int × Int) : dSort [d] = [d] := by simp [dSort, dSortGo, dHas, dIns, insPos]
theorem cAdd_one {d : Int × Int} (h : dCheck d = true) : cAdd ⟨[], []⟩ [d] = ctxOne d := by
  have h2 : 1 ≤ d.2 := by simp [dCheck] at h; omega
  simp only [cAdd, List.filter_cons, h, if_true, List.filter_nil, dSort_one, cJoin, List.nil_append, cNodes, List.map_nil, List.map_cons, dSort_one, zN, List.foldl_cons, List.foldl_nil, joinStep, joinUp, dBase, cOf, dOf, beq_self_eq_true, ofGo, ctxOne]
  simp only [Int.lt_irrefl, if_false]
  by_cases h1 : d.2 = 1
  · simp [h1]
  · have : 0 < d.2 := by omega
    simp [h1, this]
theorem bSorted_one (m : Msg) : bSorted [m] = [m] := by simp [bSorted, dSort_one, bPick, sameDot]
theorem put_one {m : Msg} (h : mMay m = true) : bPut bag0 m = (⟨[m], ctxOne m.d⟩, 0) := by
  have hd : dCheck m.d = true := by simp [mMay] at h; exact h.1
  unfold bPut
  rw [if_neg (by rw [h]; decide), if_neg (by simp [bag0, cHas, dHas, dBase, dCheck] at hd ⊢; omega)]
  simp only [bag0, List.nil_append, bSorted_one, cAdd_one hd]
theorem rem_one {d : Int × Int} (h : dCheck d = true) : bRemove bag0 d = (⟨[], ctxOne d⟩, 0) := by
  unfold bRemove
  rw [if_neg (by rw [h]; decide)]
  simp only [bag0, bNot, List.filter_nil, cAdd_one h]
theorem dCheck_iff (d : Int × Int) : dCheck d = true ↔ 1 ≤ d.1 ∧ d.1 ≤ 1099511627776 ∧ 1 ≤ d.2 ∧ d.2 ≤ 1099511627776 := by simp [dCheck]
theorem mMay_iff (m : Msg) : mMay m = true ↔ dCheck m.d = true ∧ (1 : Int) ≤ (m.q.length : Int) ∧ (m.q.length : Int) ≤ 40 ∧ (m.b.length : Int) ≤ 1000 ∧ 0 ≤ m.c ∧ m.c ≤ 1048576 := by simp [mMay]
theorem rcDot_ok (n : Int) : dCheck (rcDot n) = true := by
  have h1 := band_le n 3 (by decide) (by decide)
  have h2 := band_le (n.fdiv 4) 7 (by decide) (by decide)
  rw [dCheck_iff]
  show 1 ≤ 1 + bits .and .i64 n 3 ∧ 1 + bits .and .i64 n 3 ≤ 1099511627776 ∧ 1 ≤ 1 + bits .and .i64 (n.fdiv 4) 7 ∧ 1 + bits .and .i64 (n.fdiv 4) 7 ≤ 1099511627776
  omega
theorem rcMsg_ok (n : Int) : mMay (rcMsg n) = true := by
  have h1 := band_le (n.fdiv 32) 3 (by decide) (by decide)
  rw [mMay_iff]
  refine ⟨rcDot_ok n, by show (1 : Int) ≤ 1; decide, by show (1 : Int) ≤ 40; decide, by show (0 : Int) ≤ 1000; decide, ?_⟩
  show 0 ≤ bits .and .i64 (n.fdiv 32) 3 ∧ bits .and .i64 (n.fdiv 32) 3 ≤ 1048576
  omega
theorem D63_rc (n : Int) : D63 (rcDot n) := by
  have h := rcDot_ok n
  simp [dCheck] at h
  constructor <;> unfold I63 <;> omega
theorem ctxOne63 {d : Int × Int} (h : D63 d) : (∀ x ∈ (ctxOne d).base, D63 x) ∧ (∀ x ∈ (ctxOne d).cloud, D63 x) ∧ (ctxOne d).base.length ≤ 1 ∧ (ctxOne d).cloud.length ≤ 1 := by
  unfold ctxOne
  split
  · rename_i h1
    refine ⟨fun x hx => ?_, fun x hx => by simp at hx, by simp, by simp⟩
    simp at hx; subst hx
    exact ⟨h.1, show (1 : Int) < 9223372036854775808 by decide⟩
  · refine ⟨fun x hx => by simp at hx, fun x hx => ?_, by simp, by simp⟩
    simp at hx; subst hx; exact h
theorem rowB_len {l : List (Int × Int)} (h : ∀ d ∈ l, D63 d) (hl : l.length ≤ 1) : (rowB l).length ≤ 30 := by
  match l, hl with
  | [], _ => simp [rowB]; exact Nat.le_trans (numI_le (by decide)) (by decide)
  | [d], _ =>
    obtain ⟨h1, h2⟩ := h d (by simp)
    have h3 := numI_le h1
    have h4 := numI_le h2
    have h5 := numI_le (n := 1) (by decide)
    simp [rowB, dBytes]
    omega
theorem ctxOneB_len {d : Int × Int} (h : D63 d) : (ctxB (ctxOne d)).length ≤ 60 := by
  obtain ⟨h1, h2, h3, h4⟩ := ctxOne63 h
  have h5 := rowB_len h1 h3
  have h6 := rowB_len h2 h4
  simp [ctxB]; omega
theorem put63 (n : Int) : Bag63 (bPut bag0 (rcMsg n)).1 ∧ (bagB (bPut bag0 (rcMsg n)).1).length ≤ 1000 := by
  have hm := rcMsg_ok n
  have hd := D63_rc n
  rw [put_one hm]
  obtain ⟨h1, h2, h3, h4⟩ := ctxOne63 (d := (rcMsg n).d) hd
  have h7 := band_le (n.fdiv 32) 3 (by decide) (by decide)
  refine ⟨⟨fun m h => ?_, h1, h2, by simp, by dsimp only; omega, by dsimp only; omega⟩, ?_⟩
  · simp at h; subst h
    exact ⟨hd, by simp [rcMsg], by simp [rcMsg], by show I63 (bits .and .i64 (n.fdiv 32) 3); unfold I63; omega⟩
  · have h5 := ctxOneB_len (d := (rcMsg n).d) hd
    have h6 := numI_le (n := 1) (by decide)
    have h8 := numI_le (n := (rcMsg n).c) (by show bits .and .i64 (n.fdiv 32) 3 < _; omega)
    have h9 := numI_le hd.1
    have h10 := numI_le hd.2
    have h11 := numI_le (n := 0) (by decide)
    have h12 := num_le (n := 1) (by decide)
    have h13 := num_le (n := 0) (by decide)
    simp [bagB, mBytes, dBytes, text, rcMsg] at h8 ⊢
    simp [rcMsg] at h5
    omega
theorem rem63 (n : Int) : Bag63 (bRemove bag0 (rcDot n)).1 ∧ (bagB (bRemove bag0 (rcDot n)).1).length ≤ 1000 := by
  have hd := D63_rc n
  rw [rem_one (rcDot_ok n)]
  obtain ⟨h1, h2, h3, h4⟩ := ctxOne63 hd
  refine ⟨⟨fun m h => by simp at h, h1, h2, by simp, by dsimp only; omega, by dsimp only; omega⟩, ?_⟩
  have h5 := ctxOneB_len hd
  have h11 := numI_le (n := 0) (by decide)
  simp [bagB]
  omega
theorem tg63 (n : Int) : (∀ d ∈ [rcTag n], d.s.length ≤ 1099511627776 ∧ I63 d.n) ∧ (tgsB [rcTag n]).length ≤ 1000 := by
  have h2 := band_le (n.fdiv 4) 7 (by decide) (by decide)
  have h3 : I63 (rcTag n).n := by show _ < _; show 1 + bits .and .i64 (n.fdiv 4) 7 < _; omega
  refine ⟨fun d h => by simp at h; subst h; exact ⟨by simp [rcTag], h3⟩, ?_⟩
  have h4 := numI_le h3
  have h5 := numI_le (n := 1) (by decide)
  have h12 := num_le (n := 1) (by decide)
  simp [tgsB, tBytes, text] at h4 ⊢
  simp [rcTag] at h4 ⊢
  omega
theorem peer63 (n : Int) : (∀ d ∈ [rcPeer n], I63 d.id ∧ I63 d.inc ∧ I63 d.st) ∧ (peersB [rcPeer n]).length ≤ 1000 := by
  have h1 := band_le n 3 (by decide) (by decide)
  have h2 := band_le (n.fdiv 4) 3 (by decide) (by decide)
  have h3 := band_le (n.fdiv 16) 1 (by decide) (by decide)
  have g1 : I63 (rcPeer n).id := by show _ < _; show 1 + bits .and .i64 n 3 < _; omega
  have g2 : I63 (rcPeer n).inc := by show bits .and .i64 (n.fdiv 4) 3 < _; omega
  have g3 : I63 (rcPeer n).st := by show bits .and .i64 (n.fdiv 16) 1 < _; omega
  refine ⟨fun d h => by simp at h; subst h; exact ⟨g1, g2, g3⟩, ?_⟩
  have h4 := numI_le g1
  have h5 := numI_le g2
  have h6 := numI_le g3
  have h7 := numI_le (n := 1) (by decide)
  simp [peersB, pBytes] at h4 h5 h6 ⊢
  omega
theorem hold63 (n : Int) : (∀ d ∈ [rcHold n], D63 d.d ∧ I63 d.r ∧ I63 d.u) ∧ (holdsB [rcHold n]).length ≤ 1000 := by
  have h1 := band_le (n.fdiv 32) 3 (by decide) (by decide)
  have h2 := band_le (n.fdiv 128) 31 (by decide) (by decide)
  have g0 := D63_rc n
  have g1 : I63 (rcHold n).r := by show 1 + bits .and .i64 (n.fdiv 32) 3 < _; omega
  have g2 : I63 (rcHold n).u := by show 1 + bits .and .i64 (n.fdiv 128) 31 < _; omega
  refine ⟨fun d h => by simp at h; subst h; exact ⟨g0, g1, g2⟩, ?_⟩
  have h3 := numI_le g0.1
  have h4 := numI_le g0.2
  have h5 := numI_le g1
  have h6 := numI_le g2
  have h7 := numI_le (n := 1) (by decide)
  have e : (rcHold n).d = rcDot n := rfl
  simp [holdsB, hBytes, dBytes, e] at h3 h4 h5 h6 ⊢
  omega
set_option maxHeartbeats 4000000 in
theorem c13 (x : Rc) (hn : I63 x.n) : PCalls Go.Proofs.Tryz.prog 13 [rcV x] (.str (rcText x)) := by
  have b1 := band_le x.n 3 (by decide) (by decide)
  have b2 := band_le (x.n.fdiv 4) 7 (by decide) (by decide)
  have b3 := band_le x.k 7 (by decide) (by decide)
  have b4 := band_le x.p 15 (by decide) (by decide)
  have b5 := band_le (x.n.fdiv 32) 3 (by decide) (by decide)
  have b6 := band_le (x.n.fdiv 4) 3 (by decide) (by decide)
  have b7 := band_le (x.n.fdiv 16) 1 (by decide) (by decide)
  have b8 := band_le (x.n.fdiv 128) 31 (by decide) (by decide)
  have hn' : x.n < 9223372036854775808 := hn
  refine pcalls_of_awp Go.Proofs.Tryz.func13 rfl (by decide) (Nat.le_of_ble_eq_true rfl) ?_
  intro B σ hB ho hob
  refine awp_region_k (fun _ => false) (by rw [hB]; rfl) fun K hK base hbase hfr => ?_
  refine tr_run ?_
  simp (disch := omega) only [go_sem, ↓reduceIte, za, zb, zc, zd, ze, zf, zg, zh, zi, zj, zk, zl, zm, zn, zo, zo, mn2, mn4, mn5, mn7, Int.reducePow, dec_t, dec_f, ltI, leI, leN, le63, le40, le0, wrap64_id, wrapu64_id, wrap8_id]
  refine tr_nil (hK _ _ _ ?_)
  clear hK K hbase hfr base
  refine awp_region_k (fun _ => false) (by rw [hB]; rfl) fun K hK base hbase hfr => ?_
  refine tr_run ?_
  simp (disch := omega) only [go_sem, ↓reduceIte, za, zb, zc, zd, ze, zf, zg, zh, zi, zj, zk, zl, zm, zn, zo, zo, mn2, mn4, mn5, mn7, Int.reducePow, dec_t, dec_f, ltI, leI, leN, le63, le40, le0, wrap64_id, wrapu64_id, wrap8_id]
  refine tr_nil (hK _ _ _ ?_)
  clear hK K hbase hfr base
  skip
  refine awp_region_k (fun _ => false) (by rw [hB]; rfl) fun K hK base hbase hfr => ?_
  refine tr_run ?_
  simp (disch := omega) only [go_sem, ↓reduceIte, za, zb, zc, zd, ze, zf, zg, zh, zi, zj, zk, zl, zm, zn, zo, zo, mn2, mn4, mn5, mn7, Int.reducePow, dec_t, dec_f, ltI, leI, leN, le63, le40, le0, wrap64_id, wrapu64_id, wrap8_id]
  refine tr_nil (hK _ _ _ ?_)
  clear hK K hbase hfr base
  refine awp_seq ?_
  refine awp_region_k (fun _ => false) (by rw [hB]; rfl) fun K hK base hbase hfr => ?_
  refine tr_run ?_
  simp (disch := omega) only [go_sem, ↓reduceIte, za, zb, zc, zd, ze, zf, zg, zh, zi, zj, zk, zl, zm, zn, zo, zo, mn2, mn4, mn5, mn7, Int.reducePow, dec_t, dec_f, ltI, leI, leN, le63, le40, le0, wrap64_id, wrapu64_id, wrap8_id]
  refine tr_nil (hK _ _ _ ?_)
  clear hK K hbase hfr base
  refine awp_block ?_
  refine awp_region_k (fun _ => false) (by rw [hB]; rfl) fun K hK base hbase hfr => ?_
  refine tr_run ?_
  simp (disch := omega) only [go_sem, ↓reduceIte, za, zb, zc, zd, ze, zf, zg, zh, zi, zj, zk, zl, zm, zn, zo, zo, mn2, mn4, mn5, mn7, Int.reducePow, dec_t, dec_f, ltI, leI, leN, le63, le40, le0, wrap64_id, wrapu64_id, wrap8_id]
  refine tr_nil (hK _ _ _ ?_)
  clear hK K hbase hfr base
  refine awp_cond (rfl) (fun h1 => ?_) (fun h1 => ?_)
  · try simp only [yb, yc, yd, ye, yf, yg, yh, yi, yj, yk, yl, ym, yn, yo] at h1
    refine awp_region_k (fun _ => false) (by rw [hB]; rfl) fun K hK base hbase hfr => ?_
    refine tr_run ?_
    simp (disch := omega) only [go_sem, ↓reduceIte, za, zb, zc, zd, ze, zf, zg, zh, zi, zj, zk, zl, zm, zn, zo, zo, mn2, mn4, mn5, mn7, Int.reducePow, dec_t, dec_f, ltI, leI, leN, le63, le40, le0, wrap64_id, wrapu64_id, wrap8_id]
    refine tr_pc (by rfl) (by simp only [go_sem, ↓reduceIte, za, zb, zc, zd, ze, zf, zg, zh, zi, zj, zk, zl, zm, zn, zo, zo, mn2, mn4, mn5, mn7, Int.reducePow] <;> rfl) (c18 (bits .and .i64 x.n 3) (by unfold I63; omega)) ?_
    simp (disch := omega) only [go_sem, ↓reduceIte, za, zb, zc, zd, ze, zf, zg, zh, zi, zj, zk, zl, zm, zn, zo, zo, mn2, mn4, mn5, mn7, Int.reducePow, dec_t, dec_f, ltI, leI, leN, le63, le40, le0, wrap64_id, wrapu64_id, wrap8_id]
    refine tr_nil (hK _ _ _ ?_)
    clear hK K hbase hfr base
    refine awp_ret ?_
    refine block_r ?_
    refine then_r ?_
    refine ⟨_, rfl, ?_, fun _ _ h => h, fun _ h => h⟩
    rw [show rcText x = _ from by rw [rcText, if_pos (by assumption)]]; exact VW.refl _
  · try simp only [yb, yc, yd, ye, yf, yg, yh, yi, yj, yk, yl, ym, yn, yo] at h1
    refine awp_region_k (fun _ => false) (by rw [hB]; rfl) fun K hK base hbase hfr => ?_
    refine tr_run ?_
    simp (disch := omega) only [go_sem, ↓reduceIte, za, zb, zc, zd, ze, zf, zg, zh, zi, zj, zk, zl, zm, zn, zo, zo, mn2, mn4, mn5, mn7, Int.reducePow, dec_t, dec_f, ltI, leI, leN, le63, le40, le0, wrap64_id, wrapu64_id, wrap8_id]
    refine tr_nil (hK _ _ _ ?_)
    clear hK K hbase hfr base
    refine awp_cond (rfl) (fun h2 => ?_) (fun h2 => ?_)
    · try simp only [yb, yc, yd, ye, yf, yg, yh, yi, yj, yk, yl, ym, yn, yo] at h2
      refine awp_region_k (fun _ => false) (by rw [hB]; rfl) fun K hK base hbase hfr => ?_
      refine tr_run ?_
      simp (disch := omega) only [go_sem, ↓reduceIte, za, zb, zc, zd, ze, zf, zg, zh, zi, zj, zk, zl, zm, zn, zo, zo, mn2, mn4, mn5, mn7, Int.reducePow, dec_t, dec_f, ltI, leI, leN, le63, le40, le0, wrap64_id, wrapu64_id, wrap8_id]
      refine tr_nil (hK _ _ _ ?_)
      clear hK K hbase hfr base
      refine awp_seq ?_
      refine awp_region_k (fun _ => false) (by rw [hB]; rfl) fun K hK base hbase hfr => ?_
      refine tr_run ?_
      simp (disch := omega) only [go_sem, ↓reduceIte, za, zb, zc, zd, ze, zf, zg, zh, zi, zj, zk, zl, zm, zn, zo, zo, mn2, mn4, mn5, mn7, Int.reducePow, dec_t, dec_f, ltI, leI, leN, le63, le40, le0, wrap64_id, wrapu64_id, wrap8_id]
      refine tr_nil (hK _ _ _ ?_)
      clear hK K hbase hfr base
      refine awp_cond (rfl) (fun h3 => ?_) (fun h3 => ?_)
      · try simp only [yb, yc, yd, ye, yf, yg, yh, yi, yj, yk, yl, ym, yn, yo] at h3
        refine awp_region_e (fun _ => false) (by rw [hB]; rfl) fun K hK base hbase hfr => ?_
        refine tr_run ?_
        simp (disch := omega) only [go_sem, ↓reduceIte, za, zb, zc, zd, ze, zf, zg, zh, zi, zj, zk, zl, zm, zn, zo, zo, mn2, mn4, mn5, mn7, Int.reducePow, dec_t, dec_f, ltI, leI, leN, le63, le40, le0, wrap64_id, wrapu64_id, wrap8_id]
        refine tr_nil (hK _ _ _ ?_)
        clear hK K hbase hfr base
        refine then_n ?_
        refine awp_region_k (fun _ => false) (by rw [hB]; rfl) fun K hK base hbase hfr => ?_
        refine tr_run ?_
        simp (disch := omega) only [go_sem, ↓reduceIte, za, zb, zc, zd, ze, zf, zg, zh, zi, zj, zk, zl, zm, zn, zo, zo, mn2, mn4, mn5, mn7, Int.reducePow, dec_t, dec_f, ltI, leI, leN, le63, le40, le0, wrap64_id, wrapu64_id, wrap8_id]
        refine tr_pc (by rfl) (by simp only [go_sem, ↓reduceIte, za, zb, zc, zd, ze, zf, zg, zh, zi, zj, zk, zl, zm, zn, zo, zo, mn2, mn4, mn5, mn7, Int.reducePow] <;> rfl) (c20 0 (by unfold I63; decide)) ?_
        simp (disch := omega) only [go_sem, ↓reduceIte, za, zb, zc, zd, ze, zf, zg, zh, zi, zj, zk, zl, zm, zn, zo, zo, mn2, mn4, mn5, mn7, Int.reducePow, dec_t, dec_f, ltI, leI, leN, le63, le40, le0, wrap64_id, wrapu64_id, wrap8_id]
        refine tr_nil (hK _ _ _ ?_)
        clear hK K hbase hfr base
        refine awp_ret ?_
        refine block_r ?_
        refine then_r ?_
        refine ⟨_, rfl, ?_, fun _ _ h => h, fun _ h => h⟩
        rw [show rcText x = _ from by rw [rcText, if_neg (by assumption), if_pos (by assumption), if_pos (by assumption)]]; exact VW.refl _
      · try simp only [yb, yc, yd, ye, yf, yg, yh, yi, yj, yk, yl, ym, yn, yo] at h3
        refine awp_skip ?_
        refine then_n ?_
        refine awp_region_k (fun _ => false) (by rw [hB]; rfl) fun K hK base hbase hfr => ?_
        refine tr_run ?_
        simp (disch := omega) only [go_sem, ↓reduceIte, za, zb, zc, zd, ze, zf, zg, zh, zi, zj, zk, zl, zm, zn, zo, zo, mn2, mn4, mn5, mn7, Int.reducePow, dec_t, dec_f, ltI, leI, leN, le63, le40, le0, wrap64_id, wrapu64_id, wrap8_id]
        refine tr_pc (by rfl) (by simp only [go_sem, ↓reduceIte, za, zb, zc, zd, ze, zf, zg, zh, zi, zj, zk, zl, zm, zn, zo, zo, mn2, mn4, mn5, mn7, Int.reducePow] <;> rfl) (c20 x.n hn) ?_
        simp (disch := omega) only [go_sem, ↓reduceIte, za, zb, zc, zd, ze, zf, zg, zh, zi, zj, zk, zl, zm, zn, zo, zo, mn2, mn4, mn5, mn7, Int.reducePow, dec_t, dec_f, ltI, leI, leN, le63, le40, le0, wrap64_id, wrapu64_id, wrap8_id]
        refine tr_nil (hK _ _ _ ?_)
        clear hK K hbase hfr base
        refine awp_ret ?_
        refine block_r ?_
        refine then_r ?_
        refine ⟨_, rfl, ?_, fun _ _ h => h, fun _ h => h⟩
        rw [show rcText x = _ from by rw [rcText, if_neg (by assumption), if_pos (by assumption), if_neg (by omega)]]; exact VW.refl _
    · try simp only [yb, yc, yd, ye, yf, yg, yh, yi, yj, yk, yl, ym, yn, yo] at h2
      refine awp_region_k (fun _ => false) (by rw [hB]; rfl) fun K hK base hbase hfr => ?_
      refine tr_run ?_
      simp (disch := omega) only [go_sem, ↓reduceIte, za, zb, zc, zd, ze, zf, zg, zh, zi, zj, zk, zl, zm, zn, zo, zo, mn2, mn4, mn5, mn7, Int.reducePow, dec_t, dec_f, ltI, leI, leN, le63, le40, le0, wrap64_id, wrapu64_id, wrap8_id]
      refine tr_nil (hK _ _ _ ?_)
      clear hK K hbase hfr base
      refine awp_cond (rfl) (fun h4 => ?_) (fun h4 => ?_)
      · try simp only [yb, yc, yd, ye, yf, yg, yh, yi, yj, yk, yl, ym, yn, yo] at h4
        refine awp_region_k (fun _ => false) (by rw [hB]; rfl) fun K hK base hbase hfr => ?_
        refine tr_run ?_
        simp (disch := omega) only [go_sem, ↓reduceIte, za, zb, zc, zd, ze, zf, zg, zh, zi, zj, zk, zl, zm, zn, zo, zo, mn2, mn4, mn5, mn7, Int.reducePow, bag0, rcMsg, rcDot, dec_t, dec_f, ltI, leI, leN, le63, le40, le0, wrap64_id, wrapu64_id, wrap8_id]
        refine tr_pc (by rfl) (by simp only [go_sem, ↓reduceIte, za, zb, zc, zd, ze, zf, zg, zh, zi, zj, zk, zl, zm, zn, zo, zo, mn2, mn4, mn5, mn7, Int.reducePow, bag0, rcMsg, rcDot] <;> rfl) (c41 bag0 .full .full .full (rcMsg x.n) cok0 (by decide)) ?_
        simp (disch := omega) only [go_sem, ↓reduceIte, za, zb, zc, zd, ze, zf, zg, zh, zi, zj, zk, zl, zm, zn, zo, zo, mn2, mn4, mn5, mn7, Int.reducePow, bag0, rcMsg, rcDot, dec_t, dec_f, ltI, leI, leN, le63, le40, le0, wrap64_id, wrapu64_id, wrap8_id]
        refine tr_nil (hK _ _ _ ?_)
        clear hK K hbase hfr base
        refine awp_region_k (fun _ => false) (by rw [hB]; rfl) fun K hK base hbase hfr => ?_
        refine tr_run ?_
        simp (disch := omega) only [go_sem, ↓reduceIte, za, zb, zc, zd, ze, zf, zg, zh, zi, zj, zk, zl, zm, zn, zo, zo, mn2, mn4, mn5, mn7, Int.reducePow, dec_t, dec_f, ltI, leI, leN, le63, le40, le0, wrap64_id, wrapu64_id, wrap8_id]
        refine tr_pc (by rfl) (by simp only [go_sem, ↓reduceIte, za, zb, zc, zd, ze, zf, zg, zh, zi, zj, zk, zl, zm, zn, zo, zo, mn2, mn4, mn5, mn7, Int.reducePow] <;> rfl) (c22 (bits .and .i64 x.p 15) (by unfold I63; omega) (bPut bag0 (rcMsg x.n)).1 .no .no .no (put63 x.n).1 (Nat.le_trans (put63 x.n).2 (by decide))) ?_
        simp (disch := omega) only [go_sem, ↓reduceIte, za, zb, zc, zd, ze, zf, zg, zh, zi, zj, zk, zl, zm, zn, zo, zo, mn2, mn4, mn5, mn7, Int.reducePow, dec_t, dec_f, ltI, leI, leN, le63, le40, le0, wrap64_id, wrapu64_id, wrap8_id]
        refine tr_nil (hK _ _ _ ?_)
        clear hK K hbase hfr base
        refine awp_ret ?_
        refine block_r ?_
        refine then_r ?_
        refine ⟨_, rfl, ?_, fun _ _ h => h, fun _ h => h⟩
        rw [show rcText x = _ from by rw [rcText, if_neg (by assumption), if_neg (by assumption), if_pos (by assumption)]]; exact VW.refl _
      · try simp only [yb, yc, yd, ye, yf, yg, yh, yi, yj, yk, yl, ym, yn, yo] at h4
        refine awp_region_k (fun _ => false) (by rw [hB]; rfl) fun K hK base hbase hfr => ?_
        refine tr_run ?_
        simp (disch := omega) only [go_sem, ↓reduceIte, za, zb, zc, zd, ze, zf, zg, zh, zi, zj, zk, zl, zm, zn, zo, zo, mn2, mn4, mn5, mn7, Int.reducePow, dec_t, dec_f, ltI, leI, leN, le63, le40, le0, wrap64_id, wrapu64_id, wrap8_id]
        refine tr_nil (hK _ _ _ ?_)
        clear hK K hbase hfr base
        refine awp_cond (rfl) (fun h5 => ?_) (fun h5 => ?_)
        · try simp only [yb, yc, yd, ye, yf, yg, yh, yi, yj, yk, yl, ym, yn, yo] at h5
          refine awp_region_k (fun _ => false) (by rw [hB]; rfl) fun K hK base hbase hfr => ?_
          refine tr_run ?_
          simp (disch := omega) only [go_sem, ↓reduceIte, za, zb, zc, zd, ze, zf, zg, zh, zi, zj, zk, zl, zm, zn, zo, zo, mn2, mn4, mn5, mn7, Int.reducePow, bag0, rcDot, dec_t, dec_f, ltI, leI, leN, le63, le40, le0, wrap64_id, wrapu64_id, wrap8_id]
          refine tr_pc (by rfl) (by simp only [go_sem, ↓reduceIte, za, zb, zc, zd, ze, zf, zg, zh, zi, zj, zk, zl, zm, zn, zo, zo, mn2, mn4, mn5, mn7, Int.reducePow, bag0, rcDot] <;> rfl) (c42 bag0 .full .full .full (rcDot x.n) cok0 (by decide)) ?_
          simp (disch := omega) only [go_sem, ↓reduceIte, za, zb, zc, zd, ze, zf, zg, zh, zi, zj, zk, zl, zm, zn, zo, zo, mn2, mn4, mn5, mn7, Int.reducePow, bag0, rcDot, dec_t, dec_f, ltI, leI, leN, le63, le40, le0, wrap64_id, wrapu64_id, wrap8_id]
          refine tr_nil (hK _ _ _ ?_)
          clear hK K hbase hfr base
          refine awp_region_k (fun _ => false) (by rw [hB]; rfl) fun K hK base hbase hfr => ?_
          refine tr_run ?_
          simp (disch := omega) only [go_sem, ↓reduceIte, za, zb, zc, zd, ze, zf, zg, zh, zi, zj, zk, zl, zm, zn, zo, zo, mn2, mn4, mn5, mn7, Int.reducePow, dec_t, dec_f, ltI, leI, leN, le63, le40, le0, wrap64_id, wrapu64_id, wrap8_id]
          refine tr_pc (by rfl) (by simp only [go_sem, ↓reduceIte, za, zb, zc, zd, ze, zf, zg, zh, zi, zj, zk, zl, zm, zn, zo, zo, mn2, mn4, mn5, mn7, Int.reducePow] <;> rfl) (c22 (bits .and .i64 x.p 15) (by unfold I63; omega) (bRemove bag0 (rcDot x.n)).1 .no .no .no (rem63 x.n).1 (Nat.le_trans (rem63 x.n).2 (by decide))) ?_
          simp (disch := omega) only [go_sem, ↓reduceIte, za, zb, zc, zd, ze, zf, zg, zh, zi, zj, zk, zl, zm, zn, zo, zo, mn2, mn4, mn5, mn7, Int.reducePow, dec_t, dec_f, ltI, leI, leN, le63, le40, le0, wrap64_id, wrapu64_id, wrap8_id]
          refine tr_nil (hK _ _ _ ?_)
          clear hK K hbase hfr base
          refine awp_ret ?_
          refine block_r ?_
          refine then_r ?_
          refine ⟨_, rfl, ?_, fun _ _ h => h, fun _ h => h⟩
          rw [show rcText x = _ from by rw [rcText, if_neg (by assumption), if_neg (by assumption), if_neg (by assumption), if_pos (by assumption)]]; exact VW.refl _
        · try simp only [yb, yc, yd, ye, yf, yg, yh, yi, yj, yk, yl, ym, yn, yo] at h5
          refine awp_region_k (fun _ => false) (by rw [hB]; rfl) fun K hK base hbase hfr => ?_
          refine tr_run ?_
          simp (disch := omega) only [go_sem, ↓reduceIte, za, zb, zc, zd, ze, zf, zg, zh, zi, zj, zk, zl, zm, zn, zo, zo, mn2, mn4, mn5, mn7, Int.reducePow, dec_t, dec_f, ltI, leI, leN, le63, le40, le0, wrap64_id, wrapu64_id, wrap8_id]
          refine tr_nil (hK _ _ _ ?_)
          clear hK K hbase hfr base
          refine awp_cond (rfl) (fun h6 => ?_) (fun h6 => ?_)
          · try simp only [yb, yc, yd, ye, yf, yg, yh, yi, yj, yk, yl, ym, yn, yo] at h6
            refine awp_region_k (fun _ => false) (by rw [hB]; rfl) fun K hK base hbase hfr => ?_
            refine tr_run ?_
            simp (disch := omega) only [go_sem, ↓reduceIte, za, zb, zc, zd, ze, zf, zg, zh, zi, zj, zk, zl, zm, zn, zo, zo, mn2, mn4, mn5, mn7, Int.reducePow, rcTag, dec_t, dec_f, ltI, leI, leN, le63, le40, le0, wrap64_id, wrapu64_id, wrap8_id]
            refine tr_pc (by rfl) (by simp only [go_sem, ↓reduceIte, za, zb, zc, zd, ze, zf, zg, zh, zi, zj, zk, zl, zm, zn, zo, zo, mn2, mn4, mn5, mn7, Int.reducePow, rcTag] <;> rfl) (c24 [rcTag x.n] .full (by show 1 ≤ 9223372036854775807; decide) (tg63 x.n).1 (Nat.le_trans (tg63 x.n).2 (by decide))) ?_
            simp (disch := omega) only [go_sem, ↓reduceIte, za, zb, zc, zd, ze, zf, zg, zh, zi, zj, zk, zl, zm, zn, zo, zo, mn2, mn4, mn5, mn7, Int.reducePow, rcTag, dec_t, dec_f, ltI, leI, leN, le63, le40, le0, wrap64_id, wrapu64_id, wrap8_id]
            refine tr_nil (hK _ _ _ ?_)
            clear hK K hbase hfr base
            refine awp_ret ?_
            refine block_r ?_
            refine then_r ?_
            refine ⟨_, rfl, ?_, fun _ _ h => h, fun _ h => h⟩
            rw [show rcText x = _ from by rw [rcText, if_neg (by assumption), if_neg (by assumption), if_neg (by assumption), if_neg (by assumption), if_pos (by assumption)]]; exact VW.refl _
          · try simp only [yb, yc, yd, ye, yf, yg, yh, yi, yj, yk, yl, ym, yn, yo] at h6
            refine awp_region_k (fun _ => false) (by rw [hB]; rfl) fun K hK base hbase hfr => ?_
            refine tr_run ?_
            simp (disch := omega) only [go_sem, ↓reduceIte, za, zb, zc, zd, ze, zf, zg, zh, zi, zj, zk, zl, zm, zn, zo, zo, mn2, mn4, mn5, mn7, Int.reducePow, dec_t, dec_f, ltI, leI, leN, le63, le40, le0, wrap64_id, wrapu64_id, wrap8_id]
            refine tr_nil (hK _ _ _ ?_)
            clear hK K hbase hfr base
            refine awp_cond (rfl) (fun h7 => ?_) (fun h7 => ?_)
            · try simp only [yb, yc, yd, ye, yf, yg, yh, yi, yj, yk, yl, ym, yn, yo] at h7
              refine awp_region_k (fun _ => false) (by rw [hB]; rfl) fun K hK base hbase hfr => ?_
              refine tr_run ?_
              simp (disch := omega) only [go_sem, ↓reduceIte, za, zb, zc, zd, ze, zf, zg, zh, zi, zj, zk, zl, zm, zn, zo, zo, mn2, mn4, mn5, mn7, Int.reducePow, rcPeer, dec_t, dec_f, ltI, leI, leN, le63, le40, le0, wrap64_id, wrapu64_id, wrap8_id]
              refine tr_pc (by rfl) (by simp only [go_sem, ↓reduceIte, za, zb, zc, zd, ze, zf, zg, zh, zi, zj, zk, zl, zm, zn, zo, zo, mn2, mn4, mn5, mn7, Int.reducePow, rcPeer] <;> rfl) (c26 [rcPeer x.n] .full (by show 1 ≤ 9223372036854775807; decide) (peer63 x.n).1 (Nat.le_trans (peer63 x.n).2 (by decide))) ?_
              simp (disch := omega) only [go_sem, ↓reduceIte, za, zb, zc, zd, ze, zf, zg, zh, zi, zj, zk, zl, zm, zn, zo, zo, mn2, mn4, mn5, mn7, Int.reducePow, rcPeer, dec_t, dec_f, ltI, leI, leN, le63, le40, le0, wrap64_id, wrapu64_id, wrap8_id]
              refine tr_nil (hK _ _ _ ?_)
              clear hK K hbase hfr base
              refine awp_ret ?_
              refine block_r ?_
              refine then_r ?_
              refine ⟨_, rfl, ?_, fun _ _ h => h, fun _ h => h⟩
              rw [show rcText x = _ from by rw [rcText, if_neg (by assumption), if_neg (by assumption), if_neg (by assumption), if_neg (by assumption), if_neg (by assumption), if_pos (by assumption)]]; exact VW.refl _
            · try simp only [yb, yc, yd, ye, yf, yg, yh, yi, yj, yk, yl, ym, yn, yo] at h7
              refine awp_region_k (fun _ => false) (by rw [hB]; rfl) fun K hK base hbase hfr => ?_
              refine tr_run ?_
              simp (disch := omega) only [go_sem, ↓reduceIte, za, zb, zc, zd, ze, zf, zg, zh, zi, zj, zk, zl, zm, zn, zo, zo, mn2, mn4, mn5, mn7, Int.reducePow, dec_t, dec_f, ltI, leI, leN, le63, le40, le0, wrap64_id, wrapu64_id, wrap8_id]
              refine tr_nil (hK _ _ _ ?_)
              clear hK K hbase hfr base
              refine awp_cond (rfl) (fun h8 => ?_) (fun h8 => ?_)
              · try simp only [yb, yc, yd, ye, yf, yg, yh, yi, yj, yk, yl, ym, yn, yo] at h8
                refine awp_region_k (fun _ => false) (by rw [hB]; rfl) fun K hK base hbase hfr => ?_
                refine tr_run ?_
                simp (disch := omega) only [go_sem, ↓reduceIte, za, zb, zc, zd, ze, zf, zg, zh, zi, zj, zk, zl, zm, zn, zo, zo, mn2, mn4, mn5, mn7, Int.reducePow, rcHold, rcDot, dec_t, dec_f, ltI, leI, leN, le63, le40, le0, wrap64_id, wrapu64_id, wrap8_id]
                refine tr_pc (by rfl) (by simp only [go_sem, ↓reduceIte, za, zb, zc, zd, ze, zf, zg, zh, zi, zj, zk, zl, zm, zn, zo, zo, mn2, mn4, mn5, mn7, Int.reducePow, rcHold, rcDot] <;> rfl) (c28 [rcHold x.n] .full (by show 1 ≤ 9223372036854775807; decide) (hold63 x.n).1 (Nat.le_trans (hold63 x.n).2 (by decide))) ?_
                simp (disch := omega) only [go_sem, ↓reduceIte, za, zb, zc, zd, ze, zf, zg, zh, zi, zj, zk, zl, zm, zn, zo, zo, mn2, mn4, mn5, mn7, Int.reducePow, rcHold, rcDot, dec_t, dec_f, ltI, leI, leN, le63, le40, le0, wrap64_id, wrapu64_id, wrap8_id]
                refine tr_nil (hK _ _ _ ?_)
                clear hK K hbase hfr base
                refine awp_ret ?_
                refine block_r ?_
                refine then_r ?_
                refine ⟨_, rfl, ?_, fun _ _ h => h, fun _ h => h⟩
                rw [show rcText x = _ from by rw [rcText, if_neg (by assumption), if_neg (by assumption), if_neg (by assumption), if_neg (by assumption), if_neg (by assumption), if_neg (by assumption), if_pos (by assumption)]]; exact VW.refl _
              · try simp only [yb, yc, yd, ye, yf, yg, yh, yi, yj, yk, yl, ym, yn, yo] at h8
                refine awp_skip ?_
                refine block_n ?_
                refine then_n ?_
                refine awp_seq ?_
                refine awp_region_k (fun _ => false) (by rw [hB]; rfl) fun K hK base hbase hfr => ?_
                refine tr_run ?_
                simp (disch := omega) only [go_sem, ↓reduceIte, za, zb, zc, zd, ze, zf, zg, zh, zi, zj, zk, zl, zm, zn, zo, zo, mn2, mn4, mn5, mn7, Int.reducePow, dec_t, dec_f, ltI, leI, leN, le63, le40, le0, wrap64_id, wrapu64_id, wrap8_id]
                refine tr_nil (hK _ _ _ ?_)
                clear hK K hbase hfr base
                refine awp_cond (rfl) (fun h9 => ?_) (fun h9 => ?_)
                · try simp only [yb, yc, yd, ye, yf, yg, yh, yi, yj, yk, yl, ym, yn, yo] at h9
                  refine awp_region_k (fun _ => false) (by rw [hB]; rfl) fun K hK base hbase hfr => ?_
                  refine tr_run ?_
                  simp (disch := omega) only [go_sem, ↓reduceIte, za, zb, zc, zd, ze, zf, zg, zh, zi, zj, zk, zl, zm, zn, zo, zo, mn2, mn4, mn5, mn7, Int.reducePow, dec_t, dec_f, ltI, leI, leN, le63, le40, le0, wrap64_id, wrapu64_id, wrap8_id]
                  refine tr_nil (hK _ _ _ ?_)
                  clear hK K hbase hfr base
                  refine awp_ret ?_
                  refine then_r ?_
                  refine ⟨_, rfl, ?_, fun _ _ h => h, fun _ h => h⟩
                  rw [show rcText x = _ from by rw [rcText, if_neg (by assumption), if_neg (by assumption), if_neg (by assumption), if_neg (by assumption), if_neg (by assumption), if_neg (by assumption), if_neg (by assumption), if_pos (by omega)]]; exact VW.refl _
                · try simp only [yb, yc, yd, ye, yf, yg, yh, yi, yj, yk, yl, ym, yn, yo] at h9
                  refine awp_skip ?_
                  refine then_n ?_
                  refine awp_region_k (fun _ => false) (by rw [hB]; rfl) fun K hK base hbase hfr => ?_
                  refine tr_run ?_
                  simp (disch := omega) only [go_sem, ↓reduceIte, za, zb, zc, zd, ze, zf, zg, zh, zi, zj, zk, zl, zm, zn, zo, zo, mn2, mn4, mn5, mn7, Int.reducePow, dec_t, dec_f, ltI, leI, leN, le63, le40, le0, wrap64_id, wrapu64_id, wrap8_id]
                  refine tr_nil (hK _ _ _ ?_)
                  clear hK K hbase hfr base
                  refine awp_ret ?_
                  refine ⟨_, rfl, ?_, fun _ _ h => h, fun _ h => h⟩
                  rw [show rcText x = _ from by rw [rcText, if_neg (by assumption), if_neg (by assumption), if_neg (by assumption), if_neg (by assumption), if_neg (by assumption), if_neg (by assumption), if_neg (by assumption), if_neg (by omega)]]; exact VW.refl _
end Go.Am
