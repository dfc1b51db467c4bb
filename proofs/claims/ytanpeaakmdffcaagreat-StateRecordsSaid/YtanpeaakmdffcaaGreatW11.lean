/- What functions of this program compute, a part: see the main text. No conditions. -/
import Derived.Test.YtanpeaakmdffcaaGreatW10
set_option linter.all false
set_option maxRecDepth 100000
namespace Go.Am
open Go
open Nat renaming reduceEqDiff → za, reduceAdd → zb, reduceMul → zc, reducePow → zd, reduceLeDiff → ze, reduceSub → zf, reduceBEq → zg, reduceBNe → zh, reduceDiv → zi, reduceMod → zj
open Int renaming reduceLT → zk, reduceLE → zl, reduceEq → zm, reduceNe → zn, reduceToNat → zo
def numTail (n : Nat) (s : List UInt8) : List UInt8 := if n < 128 then s else numTail (n / 128) (UInt8.ofNat (128 + n / 128 % 128) :: s)
def num (n : Nat) : List UInt8 := numTail n [UInt8.ofNat (n % 128)]
def numI (n : Int) : List UInt8 := num n.toNat
def text (s : List UInt8) : List UInt8 := num s.length ++ s
def dBytes (d : Int × Int) : List UInt8 := numI d.1 ++ numI d.2
def rowB (l : List (Int × Int)) : List UInt8 := numI l.length ++ l.flatMap dBytes
theorem numTail_le : ∀ (k n : Nat) (s : List UInt8), n < 128 ^ (k + 1) → (numTail n s).length ≤ s.length + k
  | 0, n, s, h => by
    unfold numTail
    rw [if_pos (by simpa using h)]
    omega
  | k + 1, n, s, h => by
    unfold numTail
    split
    · omega
    · have := numTail_le k (n / 128) (UInt8.ofNat (128 + n / 128 % 128) :: s) (by rw [Nat.pow_succ] at h; omega)
      simp only [List.length_cons] at this
      omega
theorem num_le {n : Nat} (h : n < 18446744073709551616) : (num n).length ≤ 10 := by
  have := numTail_le 9 n [UInt8.ofNat (n % 128)] (by omega)
  unfold num; simpa using this
theorem numTail_ge (n : Nat) : ∀ (s : List UInt8), s.length ≤ (numTail n s).length := by
  induction n using Nat.strongRecOn with
  | _ n ih =>
    intro s
    unfold numTail
    split
    · omega
    · have := ih (n / 128) (by omega) (UInt8.ofNat (128 + n / 128 % 128) :: s)
      simp only [List.length_cons] at this
      omega
theorem numI_le {n : Int} (h : n < 9223372036854775808) : (numI n).length ≤ 10 := num_le (by omega)
theorem c118 (n : Nat) (hn : n < 18446744073709551616) : PCalls Go.Proofs.Tryz.prog 118 [.int .u64 n] (.str (num n)) := by
  refine pcalls_of_awp Go.Proofs.Tryz.func118 rfl (by decide) (Nat.le_of_ble_eq_true rfl) ?_
  intro B σ hB ho hob
  refine awp_region_k (fun _ => false) (by rw [hB]; rfl) fun K hK base hbase hfr => tr_run ?_
  simp (disch := omega) only [go_sem, ↓reduceIte, za, zb, zc, zd, ze, zf, zg, zh, zi, zj, zk, zl, zm, zn, zo, dec_t, dec_f, ltI, leI, leN, le63, le40, le0, wrap64_id, wrapu64_id, wrap8_id]
  refine tr_nil (hK _ _ _ ?_)
  clear hK K hbase hfr base
  refine awp_region_k (fun _ => false) (by rw [hB]; rfl) fun K hK base hbase hfr => tr_run ?_
  simp (disch := omega) only [go_sem, ↓reduceIte, za, zb, zc, zd, ze, zf, zg, zh, zi, zj, zk, zl, zm, zn, zo, dec_t, dec_f, ltI, leI, leN, le63, le40, le0, wrap64_id, wrapu64_id, wrap8_id]
  refine tr_nil (hK _ _ _ ?_)
  clear hK K hbase hfr base
  refine awp_seq ?_
  refine awp_block ?_
  refine awp_loop_w (α := Nat × List UInt8) (fun x => numTail x.1 x.2 = num n ∧ x.1 ≤ n) (fun x => [(0, .int .u64 x.1), (3, .str x.2)]) (fun x => []) (fun x => σ) (fun x => x.1) (n, [UInt8.ofNat (n % 128)]) ?_ ?_ (Boxes.subW_nil _) (Sh.sub_refl _) ?_
  · exact ⟨rfl, Nat.le_refl _⟩
  · exact Env.subW_one rfl <| Env.subW_one rfl <| Env.subW_nil _
  rintro ⟨m, s⟩ ⟨h0, hm⟩
  dsimp only at h0 hm
  have hl : s.length ≤ 10 := by have := numTail_ge m s; have := num_le hn; rw [h0] at *; omega
  refine awp_seq ?_
  refine awp_region_k (fun _ => false) (by rw [hB]; rfl) fun K hK base hbase hfr => tr_run ?_
  simp (disch := omega) only [go_sem, ↓reduceIte, za, zb, zc, zd, ze, zf, zg, zh, zi, zj, zk, zl, zm, zn, zo, dec_t, dec_f, ltI, leI, leN, le63, le40, le0, wrap64_id, wrapu64_id, wrap8_id]
  refine tr_nil (hK _ _ _ ?_)
  clear hK K hbase hfr base
  refine awp_cond (rfl) (fun h1 => ?_) (fun h1 => ?_)
  · try simp only [yb, yc, yd, ye, yf, yg, yh, yi, yj, yk, yl, ym, yn, yo] at h1
    refine awp_skip ?_
    refine then_n ?_
    refine awp_block ?_
    refine awp_region_k (fun _ => false) (by rw [hB]; rfl) fun K hK base hbase hfr => tr_run ?_
    simp (disch := omega) only [go_sem, ↓reduceIte, za, zb, zc, zd, ze, zf, zg, zh, zi, zj, zk, zl, zm, zn, zo, dec_t, dec_f, ltI, leI, leN, le63, le40, le0, wrap64_id, wrapu64_id, wrap8_id]
    refine tr_nil (hK _ _ _ ?_)
    clear hK K hbase hfr base
    refine awp_region_e (fun _ => false) (by rw [hB]; rfl) fun K hK base hbase hfr => tr_run ?_
    simp (disch := omega) only [go_sem, ↓reduceIte, za, zb, zc, zd, ze, zf, zg, zh, zi, zj, zk, zl, zm, zn, zo, dec_t, dec_f, ltI, leI, leN, le63, le40, le0, wrap64_id, wrapu64_id, wrap8_id]
    refine tr_nil (hK _ _ _ ?_)
    clear hK K hbase hfr base
    refine block_n ?_
    refine then_n ⟨(m / 128, UInt8.ofNat (128 + m / 128 % 128) :: s), ?_, ?_, ?_, ?_, Sh.sub_refl _⟩
    · refine ⟨?_, ?_⟩
      · rw [← h0]; conv => rhs; unfold numTail
        rw [if_neg (by omega)]
      · show m / 128 ≤ n; omega
    · show m / 128 < m; omega
    · exact Env.subW_one rfl <| Env.subW_one rfl <| Env.subW_nil _
    · exact Boxes.subW_nil _
  · try simp only [yb, yc, yd, ye, yf, yg, yh, yi, yj, yk, yl, ym, yn, yo] at h1
    refine awp_exit ?_
    refine then_x ?_
    refine then_x ?_
    refine block_x ?_
    refine then_n ?_
    refine awp_region_k (fun _ => false) (by rw [hB]; rfl) fun K hK base hbase hfr => tr_run ?_
    simp (disch := omega) only [go_sem, ↓reduceIte, za, zb, zc, zd, ze, zf, zg, zh, zi, zj, zk, zl, zm, zn, zo, dec_t, dec_f, ltI, leI, leN, le63, le40, le0, wrap64_id, wrapu64_id, wrap8_id]
    refine tr_nil (hK _ _ _ ?_)
    clear hK K hbase hfr base
    refine awp_ret ?_
    refine ⟨_, rfl, ?_, fun _ _ h => h, fun _ h => h⟩
    have e : num n = s := by rw [← h0]; unfold numTail; rw [if_pos (by omega)]
    rw [e]; exact VW.refl _
theorem c118i (n : Int) (h0 : 0 ≤ n) (hn : n < 18446744073709551616) : PCalls Go.Proofs.Tryz.prog 118 [.int .u64 n] (.str (numI n)) := by
  obtain ⟨m, rfl⟩ := Int.eq_ofNat_of_zero_le h0
  exact c118 m (by omega)
theorem numI_neg {n : Int} (h : n < 0) : numI n = numI 0 := by unfold numI; rw [Int.toNat_of_nonpos (by omega)]; rfl
theorem c55 (n : Int) (hn : n < 9223372036854775808) : PCalls Go.Proofs.Tryz.prog 55 [.int .i64 n] (.str (numI n)) := by
  refine pcalls_of_awp Go.Proofs.Tryz.func55 rfl (by decide) (Nat.le_of_ble_eq_true rfl) ?_
  intro B σ hB ho hob
  refine awp_region_k (fun _ => false) (by rw [hB]; rfl) fun K hK base hbase hfr => tr_run ?_
  simp (disch := omega) only [go_sem, ↓reduceIte, za, zb, zc, zd, ze, zf, zg, zh, zi, zj, zk, zl, zm, zn, zo, dec_t, dec_f, ltI, leI, leN, le63, le40, le0, wrap64_id, wrapu64_id, wrap8_id]
  refine tr_nil (hK _ _ _ ?_)
  clear hK K hbase hfr base
  refine awp_seq ?_
  refine awp_region_k (fun _ => false) (by rw [hB]; rfl) fun K hK base hbase hfr => tr_run ?_
  simp (disch := omega) only [go_sem, ↓reduceIte, za, zb, zc, zd, ze, zf, zg, zh, zi, zj, zk, zl, zm, zn, zo, dec_t, dec_f, ltI, leI, leN, le63, le40, le0, wrap64_id, wrapu64_id, wrap8_id]
  refine tr_nil (hK _ _ _ ?_)
  clear hK K hbase hfr base
  refine awp_cond (rfl) (fun h1 => ?_) (fun h1 => ?_)
  · try simp only [yb, yc, yd, ye, yf, yg, yh, yi, yj, yk, yl, ym, yn, yo] at h1
    refine awp_region_e (fun _ => false) (by rw [hB]; rfl) fun K hK base hbase hfr => tr_run ?_
    simp (disch := omega) only [go_sem, ↓reduceIte, za, zb, zc, zd, ze, zf, zg, zh, zi, zj, zk, zl, zm, zn, zo, dec_t, dec_f, ltI, leI, leN, le63, le40, le0, wrap64_id, wrapu64_id, wrap8_id]
    refine tr_nil (hK _ _ _ ?_)
    clear hK K hbase hfr base
    refine then_n ?_
    refine awp_region_k (fun _ => false) (by rw [hB]; rfl) fun K hK base hbase hfr => tr_run ?_
    simp (disch := omega) only [go_sem, ↓reduceIte, za, zb, zc, zd, ze, zf, zg, zh, zi, zj, zk, zl, zm, zn, zo, dec_t, dec_f, ltI, leI, leN, le63, le40, le0, wrap64_id, wrapu64_id, wrap8_id]
    refine tr_pc (by rfl) (by simp only [go_sem, ↓reduceIte, za, zb, zc, zd, ze, zf, zg, zh, zi, zj, zk, zl, zm, zn, zo] <;> rfl) (c118i _ (by omega) (by omega)) ?_
    simp (disch := omega) only [go_sem, ↓reduceIte, za, zb, zc, zd, ze, zf, zg, zh, zi, zj, zk, zl, zm, zn, zo, dec_t, dec_f, ltI, leI, leN, le63, le40, le0, wrap64_id, wrapu64_id, wrap8_id]
    refine tr_nil (hK _ _ _ ?_)
    clear hK K hbase hfr base
    refine awp_ret ?_
    refine ⟨_, rfl, ?_, fun _ _ h => h, fun _ h => h⟩
    rw [numI_neg h1]; exact VW.refl _
  · try simp only [yb, yc, yd, ye, yf, yg, yh, yi, yj, yk, yl, ym, yn, yo] at h1
    refine awp_skip ?_
    refine then_n ?_
    refine awp_region_k (fun _ => false) (by rw [hB]; rfl) fun K hK base hbase hfr => tr_run ?_
    simp (disch := omega) only [go_sem, ↓reduceIte, za, zb, zc, zd, ze, zf, zg, zh, zi, zj, zk, zl, zm, zn, zo, dec_t, dec_f, ltI, leI, leN, le63, le40, le0, wrap64_id, wrapu64_id, wrap8_id]
    refine tr_pc (by rfl) (by simp only [go_sem, ↓reduceIte, za, zb, zc, zd, ze, zf, zg, zh, zi, zj, zk, zl, zm, zn, zo] <;> rfl) (c118i _ (by omega) (by omega)) ?_
    simp (disch := omega) only [go_sem, ↓reduceIte, za, zb, zc, zd, ze, zf, zg, zh, zi, zj, zk, zl, zm, zn, zo, dec_t, dec_f, ltI, leI, leN, le63, le40, le0, wrap64_id, wrapu64_id, wrap8_id]
    refine tr_nil (hK _ _ _ ?_)
    clear hK K hbase hfr base
    refine awp_ret ?_
    refine ⟨_, rfl, ?_, fun _ _ h => h, fun _ h => h⟩
    exact VW.refl _
end Go.Am
namespace Go.Am
open Go
open Nat renaming reduceEqDiff → za, reduceAdd → zb, reduceMul → zc, reducePow → zd, reduceLeDiff → ze, reduceSub → zf, reduceBEq → zg, reduceBNe → zh, reduceDiv → zi, reduceMod → zj
open Int renaming reduceLT → zk, reduceLE → zl, reduceEq → zm, reduceNe → zn, reduceToNat → zo
structure Msg where
  d : Int × Int
  q : List UInt8
  b : List UInt8
  c : Int
structure Tg where
  s : List UInt8
  n : Int
structure Peer where
  id : Int
  inc : Int
  st : Int
structure Hold where
  d : Int × Int
  r : Int
  u : Int
structure Ctx where
  base : List (Int × Int)
  cloud : List (Int × Int)
structure Bag where
  live : List Msg
  ctx : Ctx
def msgV (m : Msg) : AV := .agg [.int .i64 m.d.1, .int .i64 m.d.2, .str m.q, .str m.b, .int .i64 m.c]
def tgV (t : Tg) : AV := .agg [.str t.s, .int .i64 t.n]
def peerV (t : Peer) : AV := .agg [.int .i64 t.id, .int .i64 t.inc, .int .i64 t.st]
def holdV (t : Hold) : AV := .agg [.int .i64 t.d.1, .int .i64 t.d.2, .int .i64 t.r, .int .i64 t.u]
def ctxV (c : Ctx) (t1 t2 : Tag) : AV := .agg [.list (c.base.map dot) t1, .list (c.cloud.map dot) t2]
def bagV (b : Bag) (t0 t1 t2 : Tag) : AV := .agg [.list (b.live.map msgV) t0, .list (b.ctx.base.map dot) t1, .list (b.ctx.cloud.map dot) t2]
@[go_sem] theorem msgs_sized (l : List Msg) : sized 5 (List.map msgV l) = true := sized_map (f := msgV) (fun _ => ⟨rfl, rfl⟩) l
@[go_sem] theorem tgs_sized (l : List Tg) : sized 2 (List.map tgV l) = true := sized_map (f := tgV) (fun _ => ⟨rfl, rfl⟩) l
@[go_sem] theorem peers_sized (l : List Peer) : sized 3 (List.map peerV l) = true := sized_map (f := peerV) (fun _ => ⟨rfl, rfl⟩) l
@[go_sem] theorem holds_sized (l : List Hold) : sized 4 (List.map holdV l) = true := sized_map (f := holdV) (fun _ => ⟨rfl, rfl⟩) l
attribute [go_sem] msgV tgV peerV holdV ctxV bagV
def I63 (n : Int) : Prop := n < 9223372036854775808
def D63 (d : Int × Int) : Prop := I63 d.1 ∧ I63 d.2

theorem acc_step {α : Type} {f : α → List UInt8} {l : List α} {i : Nat} {s T : List UInt8} {x : α} (hx : l[i]? = some x) (h : s ++ (l.drop i).flatMap f = T) :
    (s ++ f x) ++ (l.drop (i + 1)).flatMap f = T ∧ s.length + (f x).length ≤ T.length := by
  obtain ⟨hi, rfl⟩ := List.getElem?_eq_some_iff.1 hx
  rw [List.drop_eq_getElem_cons hi, List.flatMap_cons] at h
  refine ⟨by rw [List.append_assoc]; exact h, ?_⟩
  rw [← h]
  simp only [List.length_append]
  omega
theorem acc_end {α : Type} {f : α → List UInt8} {l : List α} {i : Nat} {s T : List UInt8} (hi : l.length ≤ i) (h : s ++ (l.drop i).flatMap f = T) : T = s := by
  rw [List.drop_eq_nil_of_le hi] at h
  simpa using h.symm
theorem get_of_lt {α : Type} {l : List α} {i : Nat} (h : (i : Int) < l.length) : ∃ x, l[i]? = some x ∧ x ∈ l ∧ i < l.length := by
  have hi : i < l.length := by omega
  exact ⟨l[i], List.getElem?_eq_getElem hi, List.getElem_mem hi, hi⟩

def mBytes (m : Msg) : List UInt8 := dBytes m.d ++ text m.q ++ text m.b ++ numI m.c
def tBytes (t : Tg) : List UInt8 := text t.s ++ numI t.n
def pBytes (t : Peer) : List UInt8 := numI t.id ++ numI t.inc ++ numI t.st
def hBytes (t : Hold) : List UInt8 := dBytes t.d ++ numI t.r ++ numI t.u
def ctxB (c : Ctx) : List UInt8 := rowB c.base ++ rowB c.cloud
def bagB (b : Bag) : List UInt8 := ctxB b.ctx ++ numI b.live.length ++ b.live.flatMap mBytes
def tgsB (l : List Tg) : List UInt8 := numI l.length ++ l.flatMap tBytes
def peersB (l : List Peer) : List UInt8 := numI l.length ++ l.flatMap pBytes
def holdsB (l : List Hold) : List UInt8 := numI l.length ++ l.flatMap hBytes
theorem c126 (s : List UInt8) (hs : s.length ≤ 9223372036854775797) : PCalls Go.Proofs.Tryz.prog 126 [.str s] (.str (text s)) := by
  have hl := numI_le (n := (s.length : Int)) (by omega)
  refine pcalls_of_awp Go.Proofs.Tryz.func126 rfl (by decide) (Nat.le_of_ble_eq_true rfl) ?_
  intro B σ hB ho hob
  refine awp_region_k (fun _ => false) (by rw [hB]; rfl) fun K hK base hbase hfr => tr_run ?_
  simp (disch := omega) only [go_sem, ↓reduceIte, za, zb, zc, zd, ze, zf, zg, zh, zi, zj, zk, zl, zm, zn, zo, dec_t, dec_f, ltI, leI, leN, le63, le40, le0, wrap64_id, wrapu64_id, wrap8_id]
  refine tr_nil (hK _ _ _ ?_)
  clear hK K hbase hfr base
  refine awp_region_k (fun _ => false) (by rw [hB]; rfl) fun K hK base hbase hfr => tr_run ?_
  simp (disch := omega) only [go_sem, ↓reduceIte, za, zb, zc, zd, ze, zf, zg, zh, zi, zj, zk, zl, zm, zn, zo, dec_t, dec_f, ltI, leI, leN, le63, le40, le0, wrap64_id, wrapu64_id, wrap8_id]
  refine tr_pc (by rfl) (by simp only [go_sem, ↓reduceIte, za, zb, zc, zd, ze, zf, zg, zh, zi, zj, zk, zl, zm, zn, zo] <;> rfl) (c118i _ (by omega) (by omega)) ?_
  simp (disch := omega) only [go_sem, ↓reduceIte, za, zb, zc, zd, ze, zf, zg, zh, zi, zj, zk, zl, zm, zn, zo, dec_t, dec_f, ltI, leI, leN, le63, le40, le0, wrap64_id, wrapu64_id, wrap8_id]
  refine tr_nil (hK _ _ _ ?_)
  clear hK K hbase hfr base
  refine awp_ret ?_
  refine ⟨_, rfl, ?_, fun _ _ h => h, fun _ h => h⟩
  exact VW.refl _
theorem c125 (d : Int × Int) (hd : D63 d) : PCalls Go.Proofs.Tryz.prog 125 [dot d] (.str (dBytes d)) := by
  have h1 := numI_le hd.1; have h2 := numI_le hd.2
  refine pcalls_of_awp Go.Proofs.Tryz.func125 rfl (by decide) (Nat.le_of_ble_eq_true rfl) ?_
  intro B σ hB ho hob
  refine awp_region_k (fun _ => false) (by rw [hB]; rfl) fun K hK base hbase hfr => tr_run ?_
  simp (disch := omega) only [go_sem, ↓reduceIte, za, zb, zc, zd, ze, zf, zg, zh, zi, zj, zk, zl, zm, zn, zo, dec_t, dec_f, ltI, leI, leN, le63, le40, le0, wrap64_id, wrapu64_id, wrap8_id]
  refine tr_nil (hK _ _ _ ?_)
  clear hK K hbase hfr base
  refine awp_drawn_k (fun f => f == 55) (fun _ => false) (by kernel_rfl) (by decide) (by rw [hB]; rfl) fun K hK base hbase hfr => trd_run ?_
  simp (disch := omega) only [go_sem, ↓reduceIte, za, zb, zc, zd, ze, zf, zg, zh, zi, zj, zk, zl, zm, zn, zo, dec_t, dec_f, ltI, leI, leN, le63, le40, le0, wrap64_id, wrapu64_id, wrap8_id]
  refine trd_pc (by kernel_rfl) (by rfl) (by simp only [go_sem, ↓reduceIte, za, zb, zc, zd, ze, zf, zg, zh, zi, zj, zk, zl, zm, zn, zo] <;> rfl) (c55 _ hd.1) ?_
  simp (disch := omega) only [go_sem, ↓reduceIte, za, zb, zc, zd, ze, zf, zg, zh, zi, zj, zk, zl, zm, zn, zo, dec_t, dec_f, ltI, leI, leN, le63, le40, le0, wrap64_id, wrapu64_id, wrap8_id]
  refine trd_pc (by kernel_rfl) (by rfl) (by simp only [go_sem, ↓reduceIte, za, zb, zc, zd, ze, zf, zg, zh, zi, zj, zk, zl, zm, zn, zo] <;> rfl) (c55 _ hd.2) ?_
  simp (disch := omega) only [go_sem, ↓reduceIte, za, zb, zc, zd, ze, zf, zg, zh, zi, zj, zk, zl, zm, zn, zo, dec_t, dec_f, ltI, leI, leN, le63, le40, le0, wrap64_id, wrapu64_id, wrap8_id]
  refine trd_nil (hK _ _ _ ?_)
  clear hK K hbase hfr base
  refine awp_ret ?_
  refine ⟨_, rfl, ?_, fun _ _ h => h, fun _ h => h⟩
  exact VW.refl _
theorem c168 (l : List (Int × Int)) (tg : Tag) (hl : l.length ≤ 9223372036854775807) (hd : ∀ d ∈ l, D63 d) (hT : (rowB l).length ≤ 9223372036854775807) : PCalls Go.Proofs.Tryz.prog 168 [dots l tg] (.str (rowB l)) := by
  refine pcalls_of_awp Go.Proofs.Tryz.func168 rfl (by decide) (Nat.le_of_ble_eq_true rfl) ?_
  intro B σ hB ho hob
  refine awp_region_k (fun _ => false) (by rw [hB]; rfl) fun K hK base hbase hfr => tr_run ?_
  simp (disch := omega) only [go_sem, ↓reduceIte, za, zb, zc, zd, ze, zf, zg, zh, zi, zj, zk, zl, zm, zn, zo, dec_t, dec_f, ltI, leI, leN, le63, le40, le0, wrap64_id, wrapu64_id, wrap8_id]
  refine tr_nil (hK _ _ _ ?_)
  clear hK K hbase hfr base
  refine awp_region_k (fun _ => false) (by rw [hB]; rfl) fun K hK base hbase hfr => tr_run ?_
  simp (disch := omega) only [go_sem, ↓reduceIte, za, zb, zc, zd, ze, zf, zg, zh, zi, zj, zk, zl, zm, zn, zo, dec_t, dec_f, ltI, leI, leN, le63, le40, le0, wrap64_id, wrapu64_id, wrap8_id]
  refine tr_pc (by rfl) (by simp only [go_sem, ↓reduceIte, za, zb, zc, zd, ze, zf, zg, zh, zi, zj, zk, zl, zm, zn, zo] <;> rfl) (c55 _ (by omega)) ?_
  simp (disch := omega) only [go_sem, ↓reduceIte, za, zb, zc, zd, ze, zf, zg, zh, zi, zj, zk, zl, zm, zn, zo, dec_t, dec_f, ltI, leI, leN, le63, le40, le0, wrap64_id, wrapu64_id, wrap8_id]
  refine tr_nil (hK _ _ _ ?_)
  clear hK K hbase hfr base
  refine awp_seq ?_
  refine awp_region_k (fun _ => false) (by rw [hB]; rfl) fun K hK base hbase hfr => tr_run ?_
  simp (disch := omega) only [go_sem, ↓reduceIte, za, zb, zc, zd, ze, zf, zg, zh, zi, zj, zk, zl, zm, zn, zo, dec_t, dec_f, ltI, leI, leN, le63, le40, le0, wrap64_id, wrapu64_id, wrap8_id]
  refine tr_nil (hK _ _ _ ?_)
  clear hK K hbase hfr base
  refine awp_block ?_
  refine awp_loop_w (α := Nat × List UInt8) (fun x => x.2 ++ (l.drop x.1).flatMap dBytes = rowB l) (fun x => [(0, dots l tg), (4, .int .i64 x.1), (3, .str x.2)]) (fun x => []) (fun x => σ) (fun x => l.length - x.1) (0, numI l.length) ?_ ?_ (Boxes.subW_nil _) (Sh.sub_refl _) ?_
  · exact rfl
  · exact Env.subW_one rfl <| Env.subW_one rfl <| Env.subW_one rfl <| Env.subW_nil _
  rintro ⟨i, s⟩ h0
  dsimp only at h0
  refine awp_seq ?_
  refine awp_region_k (fun _ => false) (by rw [hB]; rfl) fun K hK base hbase hfr => tr_run ?_
  simp (disch := omega) only [go_sem, ↓reduceIte, za, zb, zc, zd, ze, zf, zg, zh, zi, zj, zk, zl, zm, zn, zo, dec_t, dec_f, ltI, leI, leN, le63, le40, le0, wrap64_id, wrapu64_id, wrap8_id]
  refine tr_nil (hK _ _ _ ?_)
  clear hK K hbase hfr base
  refine awp_cond (rfl) (fun h1 => ?_) (fun h1 => ?_)
  · try simp only [yb, yc, yd, ye, yf, yg, yh, yi, yj, yk, yl, ym, yn, yo] at h1
    obtain ⟨x, hx, hm, hi⟩ := get_of_lt h1
    have hs := acc_step hx h0
    have hs2 := hs.2
    refine awp_skip ?_
    refine then_n ?_
    refine awp_seq ?_
    refine awp_block ?_
    refine awp_region_e (fun _ => false) (by rw [hB]; rfl) fun K hK base hbase hfr => tr_run ?_
    simp (disch := omega) only [go_sem, ↓reduceIte, za, zb, zc, zd, ze, zf, zg, zh, zi, zj, zk, zl, zm, zn, zo, hx, dec_t, dec_f, ltI, leI, leN, le63, le40, le0, wrap64_id, wrapu64_id, wrap8_id]
    refine tr_pc (by rfl) (by simp only [go_sem, ↓reduceIte, za, zb, zc, zd, ze, zf, zg, zh, zi, zj, zk, zl, zm, zn, zo, hx] <;> rfl) (c125 _ (hd _ hm)) ?_
    simp (disch := omega) only [go_sem, ↓reduceIte, za, zb, zc, zd, ze, zf, zg, zh, zi, zj, zk, zl, zm, zn, zo, hx, dec_t, dec_f, ltI, leI, leN, le63, le40, le0, wrap64_id, wrapu64_id, wrap8_id]
    refine tr_nil (hK _ _ _ ?_)
    clear hK K hbase hfr base
    refine block_n ?_
    refine then_n ?_
    refine awp_region_e (fun _ => false) (by rw [hB]; rfl) fun K hK base hbase hfr => tr_run ?_
    simp (disch := omega) only [go_sem, ↓reduceIte, za, zb, zc, zd, ze, zf, zg, zh, zi, zj, zk, zl, zm, zn, zo, dec_t, dec_f, ltI, leI, leN, le63, le40, le0, wrap64_id, wrapu64_id, wrap8_id]
    refine tr_nil (hK _ _ _ ?_)
    clear hK K hbase hfr base
    refine then_n ⟨(i + 1, s ++ dBytes x), ?_, ?_, ?_, ?_, Sh.sub_refl _⟩
    · exact hs.1
    · show l.length - (i + 1) < l.length - i; omega
    · exact Env.subW_one rfl <| Env.subW_one rfl <| Env.subW_one rfl <| Env.subW_nil _
    · exact Boxes.subW_nil _
  · try simp only [yb, yc, yd, ye, yf, yg, yh, yi, yj, yk, yl, ym, yn, yo] at h1
    refine awp_exit ?_
    refine then_x ?_
    refine then_x ?_
    refine block_x ?_
    refine then_n ?_
    refine awp_region_k (fun _ => false) (by rw [hB]; rfl) fun K hK base hbase hfr => tr_run ?_
    simp (disch := omega) only [go_sem, ↓reduceIte, za, zb, zc, zd, ze, zf, zg, zh, zi, zj, zk, zl, zm, zn, zo, dec_t, dec_f, ltI, leI, leN, le63, le40, le0, wrap64_id, wrapu64_id, wrap8_id]
    refine tr_nil (hK _ _ _ ?_)
    clear hK K hbase hfr base
    refine awp_ret ?_
    refine ⟨_, rfl, ?_, fun _ _ h => h, fun _ h => h⟩
    rw [acc_end (by omega) h0]; exact VW.refl _
theorem c124 (c : Ctx) (t1 t2 : Tag) (h1 : ∀ d ∈ c.base, D63 d) (h2 : ∀ d ∈ c.cloud, D63 d) (l1 : c.base.length ≤ 9223372036854775807) (l2 : c.cloud.length ≤ 9223372036854775807) (hT : (ctxB c).length ≤ 9223372036854775807) : PCalls Go.Proofs.Tryz.prog 124 [ctxV c t1 t2] (.str (ctxB c)) := by
  have hT2 : (rowB c.base).length + (rowB c.cloud).length ≤ 9223372036854775807 := by simpa only [ctxB, List.length_append] using hT
  refine pcalls_of_awp Go.Proofs.Tryz.func124 rfl (by decide) (Nat.le_of_ble_eq_true rfl) ?_
  intro B σ hB ho hob
  refine awp_region_k (fun _ => false) (by rw [hB]; rfl) fun K hK base hbase hfr => tr_run ?_
  simp (disch := omega) only [go_sem, ↓reduceIte, za, zb, zc, zd, ze, zf, zg, zh, zi, zj, zk, zl, zm, zn, zo, dec_t, dec_f, ltI, leI, leN, le63, le40, le0, wrap64_id, wrapu64_id, wrap8_id]
  refine tr_nil (hK _ _ _ ?_)
  clear hK K hbase hfr base
  refine awp_drawn_k (fun f => f == 168) (fun _ => false) (by kernel_rfl) (by decide) (by rw [hB]; rfl) fun K hK base hbase hfr => trd_run ?_
  simp (disch := omega) only [go_sem, ↓reduceIte, za, zb, zc, zd, ze, zf, zg, zh, zi, zj, zk, zl, zm, zn, zo, dec_t, dec_f, ltI, leI, leN, le63, le40, le0, wrap64_id, wrapu64_id, wrap8_id]
  refine trd_pc (by kernel_rfl) (by rfl) (by simp only [go_sem, ↓reduceIte, za, zb, zc, zd, ze, zf, zg, zh, zi, zj, zk, zl, zm, zn, zo] <;> rfl) (c168 c.base t1 l1 h1 (by omega)) ?_
  simp (disch := omega) only [go_sem, ↓reduceIte, za, zb, zc, zd, ze, zf, zg, zh, zi, zj, zk, zl, zm, zn, zo, dec_t, dec_f, ltI, leI, leN, le63, le40, le0, wrap64_id, wrapu64_id, wrap8_id]
  refine trd_pc (by kernel_rfl) (by rfl) (by simp only [go_sem, ↓reduceIte, za, zb, zc, zd, ze, zf, zg, zh, zi, zj, zk, zl, zm, zn, zo] <;> rfl) (c168 c.cloud t2 l2 h2 (by omega)) ?_
  simp (disch := omega) only [go_sem, ↓reduceIte, za, zb, zc, zd, ze, zf, zg, zh, zi, zj, zk, zl, zm, zn, zo, dec_t, dec_f, ltI, leI, leN, le63, le40, le0, wrap64_id, wrapu64_id, wrap8_id]
  refine trd_nil (hK _ _ _ ?_)
  clear hK K hbase hfr base
  refine awp_ret ?_
  refine ⟨_, rfl, ?_, fun _ _ h => h, fun _ h => h⟩
  exact VW.refl _
structure Msg63 (m : Msg) : Prop where
  d : D63 m.d
  q : m.q.length ≤ 1099511627776
  b : m.b.length ≤ 1099511627776
  c : I63 m.c
structure Bag63 (b : Bag) : Prop where
  live : ∀ m ∈ b.live, Msg63 m
  base : ∀ d ∈ b.ctx.base, D63 d
  cloud : ∀ d ∈ b.ctx.cloud, D63 d
  l0 : b.live.length ≤ 9223372036854775807
  l1 : b.ctx.base.length ≤ 9223372036854775807
  l2 : b.ctx.cloud.length ≤ 9223372036854775807
theorem c57 (b : Bag) (t0 t1 t2 : Tag) (hb : Bag63 b) (hT : (bagB b).length ≤ 9223372036854775807) : PCalls Go.Proofs.Tryz.prog 57 [bagV b t0 t1 t2] (.str (bagB b)) := by
  have hT2 : (ctxB b.ctx).length + (numI b.live.length).length + (b.live.flatMap mBytes).length ≤ 9223372036854775807 := by simpa only [bagB, List.length_append] using hT
  have hl0 := hb.l0
  refine pcalls_of_awp Go.Proofs.Tryz.func57 rfl (by decide) (Nat.le_of_ble_eq_true rfl) ?_
  intro B σ hB ho hob
  refine awp_region_k (fun _ => false) (by rw [hB]; rfl) fun K hK base hbase hfr => tr_run ?_
  simp (disch := omega) only [go_sem, ↓reduceIte, za, zb, zc, zd, ze, zf, zg, zh, zi, zj, zk, zl, zm, zn, zo, dec_t, dec_f, ltI, leI, leN, le63, le40, le0, wrap64_id, wrapu64_id, wrap8_id]
  refine tr_nil (hK _ _ _ ?_)
  clear hK K hbase hfr base
  refine awp_drawn_k (fun f => f == 55 || f == 124) (fun _ => false) (by kernel_rfl) (by decide) (by rw [hB]; rfl) fun K hK base hbase hfr => trd_run ?_
  simp (disch := omega) only [go_sem, ↓reduceIte, za, zb, zc, zd, ze, zf, zg, zh, zi, zj, zk, zl, zm, zn, zo, dec_t, dec_f, ltI, leI, leN, le63, le40, le0, wrap64_id, wrapu64_id, wrap8_id]
  refine trd_pc (by kernel_rfl) (by rfl) (by simp only [go_sem, ↓reduceIte, za, zb, zc, zd, ze, zf, zg, zh, zi, zj, zk, zl, zm, zn, zo] <;> rfl) (c124 b.ctx t1 t2 hb.base hb.cloud hb.l1 hb.l2 (by omega)) ?_
  simp (disch := omega) only [go_sem, ↓reduceIte, za, zb, zc, zd, ze, zf, zg, zh, zi, zj, zk, zl, zm, zn, zo, dec_t, dec_f, ltI, leI, leN, le63, le40, le0, wrap64_id, wrapu64_id, wrap8_id]
  refine trd_pc (by kernel_rfl) (by rfl) (by simp only [go_sem, ↓reduceIte, za, zb, zc, zd, ze, zf, zg, zh, zi, zj, zk, zl, zm, zn, zo] <;> rfl) (c55 _ (by omega)) ?_
  simp (disch := omega) only [go_sem, ↓reduceIte, za, zb, zc, zd, ze, zf, zg, zh, zi, zj, zk, zl, zm, zn, zo, dec_t, dec_f, ltI, leI, leN, le63, le40, le0, wrap64_id, wrapu64_id, wrap8_id]
  refine trd_nil (hK _ _ _ ?_)
  clear hK K hbase hfr base
  refine awp_seq ?_
  refine awp_region_k (fun _ => false) (by rw [hB]; rfl) fun K hK base hbase hfr => tr_run ?_
  simp (disch := omega) only [go_sem, ↓reduceIte, za, zb, zc, zd, ze, zf, zg, zh, zi, zj, zk, zl, zm, zn, zo, dec_t, dec_f, ltI, leI, leN, le63, le40, le0, wrap64_id, wrapu64_id, wrap8_id]
  refine tr_nil (hK _ _ _ ?_)
  clear hK K hbase hfr base
  refine awp_block ?_
  refine awp_loop_w (α := Nat × List UInt8) (fun x => x.2 ++ (b.live.drop x.1).flatMap mBytes = bagB b) (fun x => [(1, .lref 1 0), (4, .int .i64 x.1), (3, .str x.2)]) (fun x => [(1, [.list (b.live.map msgV) t0, .list (b.ctx.base.map dot) t1, .list (b.ctx.cloud.map dot) t2])]) (fun x => σ) (fun x => b.live.length - x.1) (0, ctxB b.ctx ++ numI b.live.length) ?_ ?_ ?_ (Sh.sub_refl _) ?_
  · exact rfl
  · exact Env.subW_one rfl <| Env.subW_one rfl <| Env.subW_one rfl <| Env.subW_nil _
  · exact Boxes.subW_one rfl <| Boxes.subW_nil _
  rintro ⟨i, s⟩ h0
  dsimp only at h0
  refine awp_seq ?_
  refine awp_region_k (fun _ => false) (by rw [hB]; rfl) fun K hK base hbase hfr => tr_run ?_
  simp (disch := omega) only [go_sem, ↓reduceIte, za, zb, zc, zd, ze, zf, zg, zh, zi, zj, zk, zl, zm, zn, zo, dec_t, dec_f, ltI, leI, leN, le63, le40, le0, wrap64_id, wrapu64_id, wrap8_id]
  refine tr_nil (hK _ _ _ ?_)
  clear hK K hbase hfr base
  refine awp_cond (rfl) (fun h1 => ?_) (fun h1 => ?_)
  · try simp only [yb, yc, yd, ye, yf, yg, yh, yi, yj, yk, yl, ym, yn, yo] at h1
    obtain ⟨x, hx, hm, hi⟩ := get_of_lt h1
    have hs := acc_step hx h0
    have hs2 := hs.2
    simp only [mBytes, List.length_append] at hs2
    refine awp_skip ?_
    refine then_n ?_
    refine awp_seq ?_
    refine awp_block ?_
    refine awp_region_k (fun _ => false) (by rw [hB]; rfl) fun K hK base hbase hfr => tr_run ?_
    simp (disch := omega) only [go_sem, ↓reduceIte, za, zb, zc, zd, ze, zf, zg, zh, zi, zj, zk, zl, zm, zn, zo, hx, dec_t, dec_f, ltI, leI, leN, le63, le40, le0, wrap64_id, wrapu64_id, wrap8_id]
    refine tr_nil (hK _ _ _ ?_)
    clear hK K hbase hfr base
    refine awp_drawn_e (fun f => f == 55 || f == 125 || f == 126) (fun _ => false) (QI_block (QI_then KI_awp (QI_loopw (QI_block (QI_then KI_awp QI_endsP))))) (by kernel_rfl) (by decide) (by rw [hB]; rfl) fun K hK base hbase hfr => trd_run ?_
    simp (disch := omega) only [go_sem, ↓reduceIte, za, zb, zc, zd, ze, zf, zg, zh, zi, zj, zk, zl, zm, zn, zo, dec_t, dec_f, ltI, leI, leN, le63, le40, le0, wrap64_id, wrapu64_id, wrap8_id]
    refine trd_pc (by kernel_rfl) (by rfl) (by simp only [go_sem, ↓reduceIte, za, zb, zc, zd, ze, zf, zg, zh, zi, zj, zk, zl, zm, zn, zo] <;> rfl) (c125 _ (hb.live _ hm).d) ?_
    simp (disch := omega) only [go_sem, ↓reduceIte, za, zb, zc, zd, ze, zf, zg, zh, zi, zj, zk, zl, zm, zn, zo, dec_t, dec_f, ltI, leI, leN, le63, le40, le0, wrap64_id, wrapu64_id, wrap8_id]
    refine trd_pc (by kernel_rfl) (by rfl) (by simp only [go_sem, ↓reduceIte, za, zb, zc, zd, ze, zf, zg, zh, zi, zj, zk, zl, zm, zn, zo] <;> rfl) (c126 _ (by have := (hb.live _ hm).q; omega)) ?_
    simp (disch := omega) only [go_sem, ↓reduceIte, za, zb, zc, zd, ze, zf, zg, zh, zi, zj, zk, zl, zm, zn, zo, dec_t, dec_f, ltI, leI, leN, le63, le40, le0, wrap64_id, wrapu64_id, wrap8_id]
    refine trd_pc (by kernel_rfl) (by rfl) (by simp only [go_sem, ↓reduceIte, za, zb, zc, zd, ze, zf, zg, zh, zi, zj, zk, zl, zm, zn, zo] <;> rfl) (c126 _ (by have := (hb.live _ hm).b; omega)) ?_
    simp (disch := omega) only [go_sem, ↓reduceIte, za, zb, zc, zd, ze, zf, zg, zh, zi, zj, zk, zl, zm, zn, zo, dec_t, dec_f, ltI, leI, leN, le63, le40, le0, wrap64_id, wrapu64_id, wrap8_id]
    refine trd_pc (by kernel_rfl) (by rfl) (by simp only [go_sem, ↓reduceIte, za, zb, zc, zd, ze, zf, zg, zh, zi, zj, zk, zl, zm, zn, zo] <;> rfl) (c55 _ (hb.live _ hm).c) ?_
    simp (disch := omega) only [go_sem, ↓reduceIte, za, zb, zc, zd, ze, zf, zg, zh, zi, zj, zk, zl, zm, zn, zo, dec_t, dec_f, ltI, leI, leN, le63, le40, le0, wrap64_id, wrapu64_id, wrap8_id]
    refine trd_nil (hK _ _ _ ?_)
    clear hK K hbase hfr base
    refine block_n ?_
    refine then_n ?_
    refine awp_region_e (fun _ => false) (by rw [hB]; rfl) fun K hK base hbase hfr => tr_run ?_
    simp (disch := omega) only [go_sem, ↓reduceIte, za, zb, zc, zd, ze, zf, zg, zh, zi, zj, zk, zl, zm, zn, zo, dec_t, dec_f, ltI, leI, leN, le63, le40, le0, wrap64_id, wrapu64_id, wrap8_id]
    refine tr_nil (hK _ _ _ ?_)
    clear hK K hbase hfr base
    refine then_n ⟨(i + 1, s ++ dBytes x.d ++ text x.q ++ text x.b ++ numI x.c), ?_, ?_, ?_, ?_, Sh.sub_refl _⟩
    · simpa only [mBytes, List.append_assoc] using hs.1
    · show b.live.length - (i + 1) < b.live.length - i; omega
    · exact Env.subW_one rfl <| Env.subW_one rfl <| Env.subW_one rfl <| Env.subW_nil _
    · exact Boxes.subW_one rfl <| Boxes.subW_nil _
  · try simp only [yb, yc, yd, ye, yf, yg, yh, yi, yj, yk, yl, ym, yn, yo] at h1
    refine awp_exit ?_
    refine then_x ?_
    refine then_x ?_
    refine block_x ?_
    refine then_n ?_
    refine awp_region_k (fun _ => false) (by rw [hB]; rfl) fun K hK base hbase hfr => tr_run ?_
    simp (disch := omega) only [go_sem, ↓reduceIte, za, zb, zc, zd, ze, zf, zg, zh, zi, zj, zk, zl, zm, zn, zo, dec_t, dec_f, ltI, leI, leN, le63, le40, le0, wrap64_id, wrapu64_id, wrap8_id]
    refine tr_nil (hK _ _ _ ?_)
    clear hK K hbase hfr base
    refine awp_ret ?_
    refine ⟨_, rfl, ?_, fun _ _ h => h, fun _ h => h⟩
    rw [acc_end (by omega) h0]; exact VW.refl _
theorem c59 (l : List Tg) (tg : Tag) (hl : l.length ≤ 9223372036854775807) (hd : ∀ d ∈ l, d.s.length ≤ 1099511627776 ∧ I63 d.n) (hT : (tgsB l).length ≤ 9223372036854775807) : PCalls Go.Proofs.Tryz.prog 59 [.list (l.map tgV) tg] (.str (tgsB l)) := by
  refine pcalls_of_awp Go.Proofs.Tryz.func59 rfl (by decide) (Nat.le_of_ble_eq_true rfl) ?_
  intro B σ hB ho hob
  refine awp_region_k (fun _ => false) (by rw [hB]; rfl) fun K hK base hbase hfr => tr_run ?_
  simp (disch := omega) only [go_sem, ↓reduceIte, za, zb, zc, zd, ze, zf, zg, zh, zi, zj, zk, zl, zm, zn, zo, dec_t, dec_f, ltI, leI, leN, le63, le40, le0, wrap64_id, wrapu64_id, wrap8_id]
  refine tr_nil (hK _ _ _ ?_)
  clear hK K hbase hfr base
  refine awp_region_k (fun _ => false) (by rw [hB]; rfl) fun K hK base hbase hfr => tr_run ?_
  simp (disch := omega) only [go_sem, ↓reduceIte, za, zb, zc, zd, ze, zf, zg, zh, zi, zj, zk, zl, zm, zn, zo, dec_t, dec_f, ltI, leI, leN, le63, le40, le0, wrap64_id, wrapu64_id, wrap8_id]
  refine tr_pc (by rfl) (by simp only [go_sem, ↓reduceIte, za, zb, zc, zd, ze, zf, zg, zh, zi, zj, zk, zl, zm, zn, zo] <;> rfl) (c55 _ (by omega)) ?_
  simp (disch := omega) only [go_sem, ↓reduceIte, za, zb, zc, zd, ze, zf, zg, zh, zi, zj, zk, zl, zm, zn, zo, dec_t, dec_f, ltI, leI, leN, le63, le40, le0, wrap64_id, wrapu64_id, wrap8_id]
  refine tr_nil (hK _ _ _ ?_)
  clear hK K hbase hfr base
  refine awp_seq ?_
  refine awp_region_k (fun _ => false) (by rw [hB]; rfl) fun K hK base hbase hfr => tr_run ?_
  simp (disch := omega) only [go_sem, ↓reduceIte, za, zb, zc, zd, ze, zf, zg, zh, zi, zj, zk, zl, zm, zn, zo, dec_t, dec_f, ltI, leI, leN, le63, le40, le0, wrap64_id, wrapu64_id, wrap8_id]
  refine tr_nil (hK _ _ _ ?_)
  clear hK K hbase hfr base
  refine awp_block ?_
  refine awp_loop_w (α := Nat × List UInt8) (fun x => x.2 ++ (l.drop x.1).flatMap tBytes = tgsB l) (fun x => [(0, .list (l.map tgV) tg), (4, .int .i64 x.1), (3, .str x.2)]) (fun x => []) (fun x => σ) (fun x => l.length - x.1) (0, numI l.length) ?_ ?_ (Boxes.subW_nil _) (Sh.sub_refl _) ?_
  · exact rfl
  · exact Env.subW_one rfl <| Env.subW_one rfl <| Env.subW_one rfl <| Env.subW_nil _
  rintro ⟨i, s⟩ h0
  dsimp only at h0
  refine awp_seq ?_
  refine awp_region_k (fun _ => false) (by rw [hB]; rfl) fun K hK base hbase hfr => tr_run ?_
  simp (disch := omega) only [go_sem, ↓reduceIte, za, zb, zc, zd, ze, zf, zg, zh, zi, zj, zk, zl, zm, zn, zo, dec_t, dec_f, ltI, leI, leN, le63, le40, le0, wrap64_id, wrapu64_id, wrap8_id]
  refine tr_nil (hK _ _ _ ?_)
  clear hK K hbase hfr base
  refine awp_cond (rfl) (fun h1 => ?_) (fun h1 => ?_)
  · try simp only [yb, yc, yd, ye, yf, yg, yh, yi, yj, yk, yl, ym, yn, yo] at h1
    obtain ⟨x, hx, hm, hi⟩ := get_of_lt h1
    have hs := acc_step hx h0
    have hs2 := hs.2
    simp only [tBytes, List.length_append] at hs2
    refine awp_skip ?_
    refine then_n ?_
    refine awp_seq ?_
    refine awp_block ?_
    refine awp_drawn_e (fun f => f == 55 || f == 126) (fun _ => false) (QI_block (QI_then KI_awp (QI_loopw (QI_block (QI_then KI_awp QI_endsP))))) (by kernel_rfl) (by decide) (by rw [hB]; rfl) fun K hK base hbase hfr => trd_run ?_
    simp (disch := omega) only [go_sem, ↓reduceIte, za, zb, zc, zd, ze, zf, zg, zh, zi, zj, zk, zl, zm, zn, zo, hx, dec_t, dec_f, ltI, leI, leN, le63, le40, le0, wrap64_id, wrapu64_id, wrap8_id]
    refine trd_pc (by kernel_rfl) (by rfl) (by simp only [go_sem, ↓reduceIte, za, zb, zc, zd, ze, zf, zg, zh, zi, zj, zk, zl, zm, zn, zo, hx] <;> rfl) (c126 _ (by have := (hd _ hm).1; omega)) ?_
    simp (disch := omega) only [go_sem, ↓reduceIte, za, zb, zc, zd, ze, zf, zg, zh, zi, zj, zk, zl, zm, zn, zo, hx, dec_t, dec_f, ltI, leI, leN, le63, le40, le0, wrap64_id, wrapu64_id, wrap8_id]
    refine trd_pc (by kernel_rfl) (by rfl) (by simp only [go_sem, ↓reduceIte, za, zb, zc, zd, ze, zf, zg, zh, zi, zj, zk, zl, zm, zn, zo, hx] <;> rfl) (c55 _ (hd _ hm).2) ?_
    simp (disch := omega) only [go_sem, ↓reduceIte, za, zb, zc, zd, ze, zf, zg, zh, zi, zj, zk, zl, zm, zn, zo, hx, dec_t, dec_f, ltI, leI, leN, le63, le40, le0, wrap64_id, wrapu64_id, wrap8_id]
    refine trd_nil (hK _ _ _ ?_)
    clear hK K hbase hfr base
    refine block_n ?_
    refine then_n ?_
    refine awp_region_e (fun _ => false) (by rw [hB]; rfl) fun K hK base hbase hfr => tr_run ?_
    simp (disch := omega) only [go_sem, ↓reduceIte, za, zb, zc, zd, ze, zf, zg, zh, zi, zj, zk, zl, zm, zn, zo, dec_t, dec_f, ltI, leI, leN, le63, le40, le0, wrap64_id, wrapu64_id, wrap8_id]
    refine tr_nil (hK _ _ _ ?_)
    clear hK K hbase hfr base
    refine then_n ⟨(i + 1, s ++ text x.s ++ numI x.n), ?_, ?_, ?_, ?_, Sh.sub_refl _⟩
    · simpa only [tBytes, List.append_assoc] using hs.1
    · show l.length - (i + 1) < l.length - i; omega
    · exact Env.subW_one rfl <| Env.subW_one rfl <| Env.subW_one rfl <| Env.subW_nil _
    · exact Boxes.subW_nil _
  · try simp only [yb, yc, yd, ye, yf, yg, yh, yi, yj, yk, yl, ym, yn, yo] at h1
    refine awp_exit ?_
    refine then_x ?_
    refine then_x ?_
    refine block_x ?_
    refine then_n ?_
    refine awp_region_k (fun _ => false) (by rw [hB]; rfl) fun K hK base hbase hfr => tr_run ?_
    simp (disch := omega) only [go_sem, ↓reduceIte, za, zb, zc, zd, ze, zf, zg, zh, zi, zj, zk, zl, zm, zn, zo, dec_t, dec_f, ltI, leI, leN, le63, le40, le0, wrap64_id, wrapu64_id, wrap8_id]
    refine tr_nil (hK _ _ _ ?_)
    clear hK K hbase hfr base
    refine awp_ret ?_
    refine ⟨_, rfl, ?_, fun _ _ h => h, fun _ h => h⟩
    rw [acc_end (by omega) h0]; exact VW.refl _
theorem c61 (l : List Peer) (tg : Tag) (hl : l.length ≤ 9223372036854775807) (hd : ∀ d ∈ l, I63 d.id ∧ I63 d.inc ∧ I63 d.st) (hT : (peersB l).length ≤ 9223372036854775807) : PCalls Go.Proofs.Tryz.prog 61 [.list (l.map peerV) tg] (.str (peersB l)) := by
  refine pcalls_of_awp Go.Proofs.Tryz.func61 rfl (by decide) (Nat.le_of_ble_eq_true rfl) ?_
  intro B σ hB ho hob
  refine awp_region_k (fun _ => false) (by rw [hB]; rfl) fun K hK base hbase hfr => tr_run ?_
  simp (disch := omega) only [go_sem, ↓reduceIte, za, zb, zc, zd, ze, zf, zg, zh, zi, zj, zk, zl, zm, zn, zo, dec_t, dec_f, ltI, leI, leN, le63, le40, le0, wrap64_id, wrapu64_id, wrap8_id]
  refine tr_nil (hK _ _ _ ?_)
  clear hK K hbase hfr base
  refine awp_region_k (fun _ => false) (by rw [hB]; rfl) fun K hK base hbase hfr => tr_run ?_
  simp (disch := omega) only [go_sem, ↓reduceIte, za, zb, zc, zd, ze, zf, zg, zh, zi, zj, zk, zl, zm, zn, zo, dec_t, dec_f, ltI, leI, leN, le63, le40, le0, wrap64_id, wrapu64_id, wrap8_id]
  refine tr_pc (by rfl) (by simp only [go_sem, ↓reduceIte, za, zb, zc, zd, ze, zf, zg, zh, zi, zj, zk, zl, zm, zn, zo] <;> rfl) (c55 _ (by omega)) ?_
  simp (disch := omega) only [go_sem, ↓reduceIte, za, zb, zc, zd, ze, zf, zg, zh, zi, zj, zk, zl, zm, zn, zo, dec_t, dec_f, ltI, leI, leN, le63, le40, le0, wrap64_id, wrapu64_id, wrap8_id]
  refine tr_nil (hK _ _ _ ?_)
  clear hK K hbase hfr base
  refine awp_seq ?_
  refine awp_region_k (fun _ => false) (by rw [hB]; rfl) fun K hK base hbase hfr => tr_run ?_
  simp (disch := omega) only [go_sem, ↓reduceIte, za, zb, zc, zd, ze, zf, zg, zh, zi, zj, zk, zl, zm, zn, zo, dec_t, dec_f, ltI, leI, leN, le63, le40, le0, wrap64_id, wrapu64_id, wrap8_id]
  refine tr_nil (hK _ _ _ ?_)
  clear hK K hbase hfr base
  refine awp_block ?_
  refine awp_loop_w (α := Nat × List UInt8) (fun x => x.2 ++ (l.drop x.1).flatMap pBytes = peersB l) (fun x => [(0, .list (l.map peerV) tg), (4, .int .i64 x.1), (3, .str x.2)]) (fun x => []) (fun x => σ) (fun x => l.length - x.1) (0, numI l.length) ?_ ?_ (Boxes.subW_nil _) (Sh.sub_refl _) ?_
  · exact rfl
  · exact Env.subW_one rfl <| Env.subW_one rfl <| Env.subW_one rfl <| Env.subW_nil _
  rintro ⟨i, s⟩ h0
  dsimp only at h0
  refine awp_seq ?_
  refine awp_region_k (fun _ => false) (by rw [hB]; rfl) fun K hK base hbase hfr => tr_run ?_
  simp (disch := omega) only [go_sem, ↓reduceIte, za, zb, zc, zd, ze, zf, zg, zh, zi, zj, zk, zl, zm, zn, zo, dec_t, dec_f, ltI, leI, leN, le63, le40, le0, wrap64_id, wrapu64_id, wrap8_id]
  refine tr_nil (hK _ _ _ ?_)
  clear hK K hbase hfr base
  refine awp_cond (rfl) (fun h1 => ?_) (fun h1 => ?_)
  · try simp only [yb, yc, yd, ye, yf, yg, yh, yi, yj, yk, yl, ym, yn, yo] at h1
    obtain ⟨x, hx, hm, hi⟩ := get_of_lt h1
    have hs := acc_step hx h0
    have hs2 := hs.2
    simp only [pBytes, List.length_append] at hs2
    refine awp_skip ?_
    refine then_n ?_
    refine awp_seq ?_
    refine awp_block ?_
    refine awp_drawn_e (fun f => f == 55) (fun _ => false) (QI_block (QI_then KI_awp (QI_loopw (QI_block (QI_then KI_awp QI_endsP))))) (by kernel_rfl) (by decide) (by rw [hB]; rfl) fun K hK base hbase hfr => trd_run ?_
    simp (disch := omega) only [go_sem, ↓reduceIte, za, zb, zc, zd, ze, zf, zg, zh, zi, zj, zk, zl, zm, zn, zo, hx, dec_t, dec_f, ltI, leI, leN, le63, le40, le0, wrap64_id, wrapu64_id, wrap8_id]
    refine trd_pc (by kernel_rfl) (by rfl) (by simp only [go_sem, ↓reduceIte, za, zb, zc, zd, ze, zf, zg, zh, zi, zj, zk, zl, zm, zn, zo, hx] <;> rfl) (c55 _ (hd _ hm).1) ?_
    simp (disch := omega) only [go_sem, ↓reduceIte, za, zb, zc, zd, ze, zf, zg, zh, zi, zj, zk, zl, zm, zn, zo, hx, dec_t, dec_f, ltI, leI, leN, le63, le40, le0, wrap64_id, wrapu64_id, wrap8_id]
    refine trd_pc (by kernel_rfl) (by rfl) (by simp only [go_sem, ↓reduceIte, za, zb, zc, zd, ze, zf, zg, zh, zi, zj, zk, zl, zm, zn, zo, hx] <;> rfl) (c55 _ (hd _ hm).2.1) ?_
    simp (disch := omega) only [go_sem, ↓reduceIte, za, zb, zc, zd, ze, zf, zg, zh, zi, zj, zk, zl, zm, zn, zo, hx, dec_t, dec_f, ltI, leI, leN, le63, le40, le0, wrap64_id, wrapu64_id, wrap8_id]
    refine trd_pc (by kernel_rfl) (by rfl) (by simp only [go_sem, ↓reduceIte, za, zb, zc, zd, ze, zf, zg, zh, zi, zj, zk, zl, zm, zn, zo, hx] <;> rfl) (c55 _ (hd _ hm).2.2) ?_
    simp (disch := omega) only [go_sem, ↓reduceIte, za, zb, zc, zd, ze, zf, zg, zh, zi, zj, zk, zl, zm, zn, zo, hx, dec_t, dec_f, ltI, leI, leN, le63, le40, le0, wrap64_id, wrapu64_id, wrap8_id]
    refine trd_nil (hK _ _ _ ?_)
    clear hK K hbase hfr base
    refine block_n ?_
    refine then_n ?_
    refine awp_region_e (fun _ => false) (by rw [hB]; rfl) fun K hK base hbase hfr => tr_run ?_
    simp (disch := omega) only [go_sem, ↓reduceIte, za, zb, zc, zd, ze, zf, zg, zh, zi, zj, zk, zl, zm, zn, zo, dec_t, dec_f, ltI, leI, leN, le63, le40, le0, wrap64_id, wrapu64_id, wrap8_id]
    refine tr_nil (hK _ _ _ ?_)
    clear hK K hbase hfr base
    refine then_n ⟨(i + 1, s ++ numI x.id ++ numI x.inc ++ numI x.st), ?_, ?_, ?_, ?_, Sh.sub_refl _⟩
    · simpa only [pBytes, List.append_assoc] using hs.1
    · show l.length - (i + 1) < l.length - i; omega
    · exact Env.subW_one rfl <| Env.subW_one rfl <| Env.subW_one rfl <| Env.subW_nil _
    · exact Boxes.subW_nil _
  · try simp only [yb, yc, yd, ye, yf, yg, yh, yi, yj, yk, yl, ym, yn, yo] at h1
    refine awp_exit ?_
    refine then_x ?_
    refine then_x ?_
    refine block_x ?_
    refine then_n ?_
    refine awp_region_k (fun _ => false) (by rw [hB]; rfl) fun K hK base hbase hfr => tr_run ?_
    simp (disch := omega) only [go_sem, ↓reduceIte, za, zb, zc, zd, ze, zf, zg, zh, zi, zj, zk, zl, zm, zn, zo, dec_t, dec_f, ltI, leI, leN, le63, le40, le0, wrap64_id, wrapu64_id, wrap8_id]
    refine tr_nil (hK _ _ _ ?_)
    clear hK K hbase hfr base
    refine awp_ret ?_
    refine ⟨_, rfl, ?_, fun _ _ h => h, fun _ h => h⟩
    rw [acc_end (by omega) h0]; exact VW.refl _
theorem c63 (l : List Hold) (tg : Tag) (hl : l.length ≤ 9223372036854775807) (hd : ∀ d ∈ l, D63 d.d ∧ I63 d.r ∧ I63 d.u) (hT : (holdsB l).length ≤ 9223372036854775807) : PCalls Go.Proofs.Tryz.prog 63 [.list (l.map holdV) tg] (.str (holdsB l)) := by
  refine pcalls_of_awp Go.Proofs.Tryz.func63 rfl (by decide) (Nat.le_of_ble_eq_true rfl) ?_
  intro B σ hB ho hob
  refine awp_region_k (fun _ => false) (by rw [hB]; rfl) fun K hK base hbase hfr => tr_run ?_
  simp (disch := omega) only [go_sem, ↓reduceIte, za, zb, zc, zd, ze, zf, zg, zh, zi, zj, zk, zl, zm, zn, zo, dec_t, dec_f, ltI, leI, leN, le63, le40, le0, wrap64_id, wrapu64_id, wrap8_id]
  refine tr_nil (hK _ _ _ ?_)
  clear hK K hbase hfr base
  refine awp_region_k (fun _ => false) (by rw [hB]; rfl) fun K hK base hbase hfr => tr_run ?_
  simp (disch := omega) only [go_sem, ↓reduceIte, za, zb, zc, zd, ze, zf, zg, zh, zi, zj, zk, zl, zm, zn, zo, dec_t, dec_f, ltI, leI, leN, le63, le40, le0, wrap64_id, wrapu64_id, wrap8_id]
  refine tr_pc (by rfl) (by simp only [go_sem, ↓reduceIte, za, zb, zc, zd, ze, zf, zg, zh, zi, zj, zk, zl, zm, zn, zo] <;> rfl) (c55 _ (by omega)) ?_
  simp (disch := omega) only [go_sem, ↓reduceIte, za, zb, zc, zd, ze, zf, zg, zh, zi, zj, zk, zl, zm, zn, zo, dec_t, dec_f, ltI, leI, leN, le63, le40, le0, wrap64_id, wrapu64_id, wrap8_id]
  refine tr_nil (hK _ _ _ ?_)
  clear hK K hbase hfr base
  refine awp_seq ?_
  refine awp_region_k (fun _ => false) (by rw [hB]; rfl) fun K hK base hbase hfr => tr_run ?_
  simp (disch := omega) only [go_sem, ↓reduceIte, za, zb, zc, zd, ze, zf, zg, zh, zi, zj, zk, zl, zm, zn, zo, dec_t, dec_f, ltI, leI, leN, le63, le40, le0, wrap64_id, wrapu64_id, wrap8_id]
  refine tr_nil (hK _ _ _ ?_)
  clear hK K hbase hfr base
  refine awp_block ?_
  refine awp_loop_w (α := Nat × List UInt8) (fun x => x.2 ++ (l.drop x.1).flatMap hBytes = holdsB l) (fun x => [(0, .list (l.map holdV) tg), (4, .int .i64 x.1), (3, .str x.2)]) (fun x => []) (fun x => σ) (fun x => l.length - x.1) (0, numI l.length) ?_ ?_ (Boxes.subW_nil _) (Sh.sub_refl _) ?_
  · exact rfl
  · exact Env.subW_one rfl <| Env.subW_one rfl <| Env.subW_one rfl <| Env.subW_nil _
  rintro ⟨i, s⟩ h0
  dsimp only at h0
  refine awp_seq ?_
  refine awp_region_k (fun _ => false) (by rw [hB]; rfl) fun K hK base hbase hfr => tr_run ?_
  simp (disch := omega) only [go_sem, ↓reduceIte, za, zb, zc, zd, ze, zf, zg, zh, zi, zj, zk, zl, zm, zn, zo, dec_t, dec_f, ltI, leI, leN, le63, le40, le0, wrap64_id, wrapu64_id, wrap8_id]
  refine tr_nil (hK _ _ _ ?_)
  clear hK K hbase hfr base
  refine awp_cond (rfl) (fun h1 => ?_) (fun h1 => ?_)
  · try simp only [yb, yc, yd, ye, yf, yg, yh, yi, yj, yk, yl, ym, yn, yo] at h1
    obtain ⟨x, hx, hm, hi⟩ := get_of_lt h1
    have hs := acc_step hx h0
    have hs2 := hs.2
    simp only [hBytes, List.length_append] at hs2
    refine awp_skip ?_
    refine then_n ?_
    refine awp_seq ?_
    refine awp_block ?_
    refine awp_drawn_e (fun f => f == 55 || f == 125) (fun _ => false) (QI_block (QI_then KI_awp (QI_loopw (QI_block (QI_then KI_awp QI_endsP))))) (by kernel_rfl) (by decide) (by rw [hB]; rfl) fun K hK base hbase hfr => trd_run ?_
    simp (disch := omega) only [go_sem, ↓reduceIte, za, zb, zc, zd, ze, zf, zg, zh, zi, zj, zk, zl, zm, zn, zo, hx, dec_t, dec_f, ltI, leI, leN, le63, le40, le0, wrap64_id, wrapu64_id, wrap8_id]
    refine trd_pc (by kernel_rfl) (by rfl) (by simp only [go_sem, ↓reduceIte, za, zb, zc, zd, ze, zf, zg, zh, zi, zj, zk, zl, zm, zn, zo, hx] <;> rfl) (c125 _ (hd _ hm).1) ?_
    simp (disch := omega) only [go_sem, ↓reduceIte, za, zb, zc, zd, ze, zf, zg, zh, zi, zj, zk, zl, zm, zn, zo, hx, dec_t, dec_f, ltI, leI, leN, le63, le40, le0, wrap64_id, wrapu64_id, wrap8_id]
    refine trd_pc (by kernel_rfl) (by rfl) (by simp only [go_sem, ↓reduceIte, za, zb, zc, zd, ze, zf, zg, zh, zi, zj, zk, zl, zm, zn, zo, hx] <;> rfl) (c55 _ (hd _ hm).2.1) ?_
    simp (disch := omega) only [go_sem, ↓reduceIte, za, zb, zc, zd, ze, zf, zg, zh, zi, zj, zk, zl, zm, zn, zo, hx, dec_t, dec_f, ltI, leI, leN, le63, le40, le0, wrap64_id, wrapu64_id, wrap8_id]
    refine trd_pc (by kernel_rfl) (by rfl) (by simp only [go_sem, ↓reduceIte, za, zb, zc, zd, ze, zf, zg, zh, zi, zj, zk, zl, zm, zn, zo, hx] <;> rfl) (c55 _ (hd _ hm).2.2) ?_
    simp (disch := omega) only [go_sem, ↓reduceIte, za, zb, zc, zd, ze, zf, zg, zh, zi, zj, zk, zl, zm, zn, zo, hx, dec_t, dec_f, ltI, leI, leN, le63, le40, le0, wrap64_id, wrapu64_id, wrap8_id]
    refine trd_nil (hK _ _ _ ?_)
    clear hK K hbase hfr base
    refine block_n ?_
    refine then_n ?_
    refine awp_region_e (fun _ => false) (by rw [hB]; rfl) fun K hK base hbase hfr => tr_run ?_
    simp (disch := omega) only [go_sem, ↓reduceIte, za, zb, zc, zd, ze, zf, zg, zh, zi, zj, zk, zl, zm, zn, zo, dec_t, dec_f, ltI, leI, leN, le63, le40, le0, wrap64_id, wrapu64_id, wrap8_id]
    refine tr_nil (hK _ _ _ ?_)
    clear hK K hbase hfr base
    refine then_n ⟨(i + 1, s ++ dBytes x.d ++ numI x.r ++ numI x.u), ?_, ?_, ?_, ?_, Sh.sub_refl _⟩
    · simpa only [hBytes, List.append_assoc] using hs.1
    · show l.length - (i + 1) < l.length - i; omega
    · exact Env.subW_one rfl <| Env.subW_one rfl <| Env.subW_one rfl <| Env.subW_nil _
    · exact Boxes.subW_nil _
  · try simp only [yb, yc, yd, ye, yf, yg, yh, yi, yj, yk, yl, ym, yn, yo] at h1
    refine awp_exit ?_
    refine then_x ?_
    refine then_x ?_
    refine block_x ?_
    refine then_n ?_
    refine awp_region_k (fun _ => false) (by rw [hB]; rfl) fun K hK base hbase hfr => tr_run ?_
    simp (disch := omega) only [go_sem, ↓reduceIte, za, zb, zc, zd, ze, zf, zg, zh, zi, zj, zk, zl, zm, zn, zo, dec_t, dec_f, ltI, leI, leN, le63, le40, le0, wrap64_id, wrapu64_id, wrap8_id]
    refine tr_nil (hK _ _ _ ?_)
    clear hK K hbase hfr base
    refine awp_ret ?_
    refine ⟨_, rfl, ?_, fun _ _ h => h, fun _ h => h⟩
    rw [acc_end (by omega) h0]; exact VW.refl _
theorem c18 (n : Int) (hn : I63 n) : PCalls Go.Proofs.Tryz.prog 18 [.int .i64 n] (.str (73 :: numI n)) := by
  have h1 := numI_le hn
  refine pcalls_of_awp Go.Proofs.Tryz.func18 rfl (by decide) (Nat.le_of_ble_eq_true rfl) ?_
  intro B σ hB ho hob
  refine awp_region_k (fun _ => false) (by rw [hB]; rfl) fun K hK base hbase hfr => tr_run ?_
  simp (disch := omega) only [go_sem, ↓reduceIte, za, zb, zc, zd, ze, zf, zg, zh, zi, zj, zk, zl, zm, zn, zo, dec_t, dec_f, ltI, leI, leN, le63, le40, le0, wrap64_id, wrapu64_id, wrap8_id]
  refine tr_nil (hK _ _ _ ?_)
  clear hK K hbase hfr base
  refine awp_region_k (fun _ => false) (by rw [hB]; rfl) fun K hK base hbase hfr => tr_run ?_
  simp (disch := omega) only [go_sem, ↓reduceIte, za, zb, zc, zd, ze, zf, zg, zh, zi, zj, zk, zl, zm, zn, zo, dec_t, dec_f, ltI, leI, leN, le63, le40, le0, wrap64_id, wrapu64_id, wrap8_id]
  refine tr_pc (by rfl) (by simp only [go_sem, ↓reduceIte, za, zb, zc, zd, ze, zf, zg, zh, zi, zj, zk, zl, zm, zn, zo] <;> rfl) (c55 _ hn) ?_
  simp (disch := omega) only [go_sem, ↓reduceIte, za, zb, zc, zd, ze, zf, zg, zh, zi, zj, zk, zl, zm, zn, zo, dec_t, dec_f, ltI, leI, leN, le63, le40, le0, wrap64_id, wrapu64_id, wrap8_id]
  refine tr_nil (hK _ _ _ ?_)
  clear hK K hbase hfr base
  refine awp_ret ?_
  refine ⟨_, rfl, ?_, fun _ _ h => h, fun _ h => h⟩
  exact VW.refl _
theorem c20 (n : Int) (hn : I63 n) : PCalls Go.Proofs.Tryz.prog 20 [.int .i64 n] (.str (82 :: numI n)) := by
  have h1 := numI_le hn
  refine pcalls_of_awp Go.Proofs.Tryz.func20 rfl (by decide) (Nat.le_of_ble_eq_true rfl) ?_
  intro B σ hB ho hob
  refine awp_region_k (fun _ => false) (by rw [hB]; rfl) fun K hK base hbase hfr => tr_run ?_
  simp (disch := omega) only [go_sem, ↓reduceIte, za, zb, zc, zd, ze, zf, zg, zh, zi, zj, zk, zl, zm, zn, zo, dec_t, dec_f, ltI, leI, leN, le63, le40, le0, wrap64_id, wrapu64_id, wrap8_id]
  refine tr_nil (hK _ _ _ ?_)
  clear hK K hbase hfr base
  refine awp_region_k (fun _ => false) (by rw [hB]; rfl) fun K hK base hbase hfr => tr_run ?_
  simp (disch := omega) only [go_sem, ↓reduceIte, za, zb, zc, zd, ze, zf, zg, zh, zi, zj, zk, zl, zm, zn, zo, dec_t, dec_f, ltI, leI, leN, le63, le40, le0, wrap64_id, wrapu64_id, wrap8_id]
  refine tr_pc (by rfl) (by simp only [go_sem, ↓reduceIte, za, zb, zc, zd, ze, zf, zg, zh, zi, zj, zk, zl, zm, zn, zo] <;> rfl) (c55 _ hn) ?_
  simp (disch := omega) only [go_sem, ↓reduceIte, za, zb, zc, zd, ze, zf, zg, zh, zi, zj, zk, zl, zm, zn, zo, dec_t, dec_f, ltI, leI, leN, le63, le40, le0, wrap64_id, wrapu64_id, wrap8_id]
  refine tr_nil (hK _ _ _ ?_)
  clear hK K hbase hfr base
  refine awp_ret ?_
  refine ⟨_, rfl, ?_, fun _ _ h => h, fun _ h => h⟩
  exact VW.refl _
theorem c22 (n : Int) (hn : I63 n) (b : Bag) (t0 t1 t2 : Tag) (hb : Bag63 b) (hT : (bagB b).length ≤ 4611686018427387904) : PCalls Go.Proofs.Tryz.prog 22 [.int .i64 n, bagV b t0 t1 t2] (.str (66 :: (numI n ++ bagB b))) := by
  have h1 := numI_le hn
  refine pcalls_of_awp Go.Proofs.Tryz.func22 rfl (by decide) (Nat.le_of_ble_eq_true rfl) ?_
  intro B σ hB ho hob
  refine awp_region_k (fun _ => false) (by rw [hB]; rfl) fun K hK base hbase hfr => tr_run ?_
  simp (disch := omega) only [go_sem, ↓reduceIte, za, zb, zc, zd, ze, zf, zg, zh, zi, zj, zk, zl, zm, zn, zo, dec_t, dec_f, ltI, leI, leN, le63, le40, le0, wrap64_id, wrapu64_id, wrap8_id]
  refine tr_nil (hK _ _ _ ?_)
  clear hK K hbase hfr base
  refine awp_drawn_k (fun f => f == 55 || f == 57) (fun _ => false) (by kernel_rfl) (by decide) (by rw [hB]; rfl) fun K hK base hbase hfr => trd_run ?_
  simp (disch := omega) only [go_sem, ↓reduceIte, za, zb, zc, zd, ze, zf, zg, zh, zi, zj, zk, zl, zm, zn, zo, dec_t, dec_f, ltI, leI, leN, le63, le40, le0, wrap64_id, wrapu64_id, wrap8_id]
  refine trd_pc (by kernel_rfl) (by rfl) (by simp only [go_sem, ↓reduceIte, za, zb, zc, zd, ze, zf, zg, zh, zi, zj, zk, zl, zm, zn, zo] <;> rfl) (c55 _ hn) ?_
  simp (disch := omega) only [go_sem, ↓reduceIte, za, zb, zc, zd, ze, zf, zg, zh, zi, zj, zk, zl, zm, zn, zo, dec_t, dec_f, ltI, leI, leN, le63, le40, le0, wrap64_id, wrapu64_id, wrap8_id]
  refine trd_pc (by kernel_rfl) (by rfl) (by simp only [go_sem, ↓reduceIte, za, zb, zc, zd, ze, zf, zg, zh, zi, zj, zk, zl, zm, zn, zo] <;> rfl) (c57 b t0 t1 t2 hb (by omega)) ?_
  simp (disch := omega) only [go_sem, ↓reduceIte, za, zb, zc, zd, ze, zf, zg, zh, zi, zj, zk, zl, zm, zn, zo, dec_t, dec_f, ltI, leI, leN, le63, le40, le0, wrap64_id, wrapu64_id, wrap8_id]
  refine trd_nil (hK _ _ _ ?_)
  clear hK K hbase hfr base
  refine awp_ret ?_
  refine ⟨_, rfl, ?_, fun _ _ h => h, fun _ h => h⟩
  exact VW.refl _
theorem c24 (l : List Tg) (tg : Tag) (hl : l.length ≤ 9223372036854775807) (hd : ∀ d ∈ l, d.s.length ≤ 1099511627776 ∧ I63 d.n) (hT : (tgsB l).length ≤ 4611686018427387904) : PCalls Go.Proofs.Tryz.prog 24 [.list (l.map tgV) tg] (.str (78 :: tgsB l)) := by
  refine pcalls_of_awp Go.Proofs.Tryz.func24 rfl (by decide) (Nat.le_of_ble_eq_true rfl) ?_
  intro B σ hB ho hob
  refine awp_region_k (fun _ => false) (by rw [hB]; rfl) fun K hK base hbase hfr => tr_run ?_
  simp (disch := omega) only [go_sem, ↓reduceIte, za, zb, zc, zd, ze, zf, zg, zh, zi, zj, zk, zl, zm, zn, zo, dec_t, dec_f, ltI, leI, leN, le63, le40, le0, wrap64_id, wrapu64_id, wrap8_id]
  refine tr_nil (hK _ _ _ ?_)
  clear hK K hbase hfr base
  refine awp_region_k (fun _ => false) (by rw [hB]; rfl) fun K hK base hbase hfr => tr_run ?_
  simp (disch := omega) only [go_sem, ↓reduceIte, za, zb, zc, zd, ze, zf, zg, zh, zi, zj, zk, zl, zm, zn, zo, dec_t, dec_f, ltI, leI, leN, le63, le40, le0, wrap64_id, wrapu64_id, wrap8_id]
  refine tr_pc (by rfl) (by simp only [go_sem, ↓reduceIte, za, zb, zc, zd, ze, zf, zg, zh, zi, zj, zk, zl, zm, zn, zo] <;> rfl) (c59 l tg hl hd (by omega)) ?_
  simp (disch := omega) only [go_sem, ↓reduceIte, za, zb, zc, zd, ze, zf, zg, zh, zi, zj, zk, zl, zm, zn, zo, dec_t, dec_f, ltI, leI, leN, le63, le40, le0, wrap64_id, wrapu64_id, wrap8_id]
  refine tr_nil (hK _ _ _ ?_)
  clear hK K hbase hfr base
  refine awp_ret ?_
  refine ⟨_, rfl, ?_, fun _ _ h => h, fun _ h => h⟩
  exact VW.refl _
theorem c26 (l : List Peer) (tg : Tag) (hl : l.length ≤ 9223372036854775807) (hd : ∀ d ∈ l, I63 d.id ∧ I63 d.inc ∧ I63 d.st) (hT : (peersB l).length ≤ 4611686018427387904) : PCalls Go.Proofs.Tryz.prog 26 [.list (l.map peerV) tg] (.str (86 :: peersB l)) := by
  refine pcalls_of_awp Go.Proofs.Tryz.func26 rfl (by decide) (Nat.le_of_ble_eq_true rfl) ?_
  intro B σ hB ho hob
  refine awp_region_k (fun _ => false) (by rw [hB]; rfl) fun K hK base hbase hfr => tr_run ?_
  simp (disch := omega) only [go_sem, ↓reduceIte, za, zb, zc, zd, ze, zf, zg, zh, zi, zj, zk, zl, zm, zn, zo, dec_t, dec_f, ltI, leI, leN, le63, le40, le0, wrap64_id, wrapu64_id, wrap8_id]
  refine tr_nil (hK _ _ _ ?_)
  clear hK K hbase hfr base
  refine awp_region_k (fun _ => false) (by rw [hB]; rfl) fun K hK base hbase hfr => tr_run ?_
  simp (disch := omega) only [go_sem, ↓reduceIte, za, zb, zc, zd, ze, zf, zg, zh, zi, zj, zk, zl, zm, zn, zo, dec_t, dec_f, ltI, leI, leN, le63, le40, le0, wrap64_id, wrapu64_id, wrap8_id]
  refine tr_pc (by rfl) (by simp only [go_sem, ↓reduceIte, za, zb, zc, zd, ze, zf, zg, zh, zi, zj, zk, zl, zm, zn, zo] <;> rfl) (c61 l tg hl hd (by omega)) ?_
  simp (disch := omega) only [go_sem, ↓reduceIte, za, zb, zc, zd, ze, zf, zg, zh, zi, zj, zk, zl, zm, zn, zo, dec_t, dec_f, ltI, leI, leN, le63, le40, le0, wrap64_id, wrapu64_id, wrap8_id]
  refine tr_nil (hK _ _ _ ?_)
  clear hK K hbase hfr base
  refine awp_ret ?_
  refine ⟨_, rfl, ?_, fun _ _ h => h, fun _ h => h⟩
  exact VW.refl _
theorem c28 (l : List Hold) (tg : Tag) (hl : l.length ≤ 9223372036854775807) (hd : ∀ d ∈ l, D63 d.d ∧ I63 d.r ∧ I63 d.u) (hT : (holdsB l).length ≤ 4611686018427387904) : PCalls Go.Proofs.Tryz.prog 28 [.list (l.map holdV) tg] (.str (72 :: holdsB l)) := by
  refine pcalls_of_awp Go.Proofs.Tryz.func28 rfl (by decide) (Nat.le_of_ble_eq_true rfl) ?_
  intro B σ hB ho hob
  refine awp_region_k (fun _ => false) (by rw [hB]; rfl) fun K hK base hbase hfr => tr_run ?_
  simp (disch := omega) only [go_sem, ↓reduceIte, za, zb, zc, zd, ze, zf, zg, zh, zi, zj, zk, zl, zm, zn, zo, dec_t, dec_f, ltI, leI, leN, le63, le40, le0, wrap64_id, wrapu64_id, wrap8_id]
  refine tr_nil (hK _ _ _ ?_)
  clear hK K hbase hfr base
  refine awp_region_k (fun _ => false) (by rw [hB]; rfl) fun K hK base hbase hfr => tr_run ?_
  simp (disch := omega) only [go_sem, ↓reduceIte, za, zb, zc, zd, ze, zf, zg, zh, zi, zj, zk, zl, zm, zn, zo, dec_t, dec_f, ltI, leI, leN, le63, le40, le0, wrap64_id, wrapu64_id, wrap8_id]
  refine tr_pc (by rfl) (by simp only [go_sem, ↓reduceIte, za, zb, zc, zd, ze, zf, zg, zh, zi, zj, zk, zl, zm, zn, zo] <;> rfl) (c63 l tg hl hd (by omega)) ?_
  simp (disch := omega) only [go_sem, ↓reduceIte, za, zb, zc, zd, ze, zf, zg, zh, zi, zj, zk, zl, zm, zn, zo, dec_t, dec_f, ltI, leI, leN, le63, le40, le0, wrap64_id, wrapu64_id, wrap8_id]
  refine tr_nil (hK _ _ _ ?_)
  clear hK K hbase hfr base
  refine awp_ret ?_
  refine ⟨_, rfl, ?_, fun _ _ h => h, fun _ h => h⟩
  exact VW.refl _
end Go.Am
