/- What functions of this program compute, a part: see the main text. No conditions. -/
import Derived.Test.YtanpeaakmdffcaaGreatW19
set_option linter.all false
set_option maxRecDepth 100000
namespace Go.Am
open Go
open Nat renaming reduceEqDiff → za, reduceAdd → zb, reduceMul → zc, reducePow → zd, reduceLeDiff → ze, reduceSub → zf, reduceBEq → zg, reduceBNe → zh, reduceDiv → zi, reduceMod → zj
open Int renaming reduceLT → zk, reduceLE → zl, reduceEq → zm, reduceNe → zn, reduceToNat → zo

def prevOk {α : Type} (lt : α → α → Bool) : Option α → α → Bool
  | none, _ => true
  | some y, x => lt y x
def chkGo {α : Type} (ok : α → Bool) (lt : α → α → Bool) : Option α → List α → Bool
  | _, [] => true
  | p, x :: l => ok x && (prevOk lt p x && chkGo ok lt (some x) l)
def prevL {α : Type} (l : List α) : Nat → Option α
  | 0 => none
  | i + 1 => l[i]?
section
variable {α : Type} {ok : α → Bool} {lt : α → α → Bool} {l : List α} {i : Nat} {x y : α} {T : Bool}
theorem chk_ok (hx : l[i]? = some x) (h : ok x = false) (h0 : chkGo ok lt (prevL l i) (l.drop i) = T) : T = false := by
  rw [← h0, drop_cons_of hx, chkGo, h]; rfl
theorem prevL_pos (hy : l[i - 1]? = some y) (hi : 0 < i) : prevL l i = some y := by
  cases i with
  | zero => omega
  | succ j => simpa [prevL] using hy
theorem chk_lt (hx : l[i]? = some x) (hy : l[i - 1]? = some y) (hi : 0 < i) (h : lt y x = false) (h0 : chkGo ok lt (prevL l i) (l.drop i) = T) : T = false := by
  rw [← h0, drop_cons_of hx, chkGo, prevL_pos hy hi]
  show (ok x && (lt y x && _)) = false
  rw [h]; simp
theorem chk_zero (hx : l[i]? = some x) (hi : ¬ 0 < i) (h : ok x = true) (h0 : chkGo ok lt (prevL l i) (l.drop i) = T) : chkGo ok lt (prevL l (i + 1)) (l.drop (i + 1)) = T := by
  obtain rfl : i = 0 := by omega
  rw [← h0, drop_cons_of hx, chkGo, h]
  show chkGo ok lt (l[0]?) _ = _
  rw [hx]; rfl
theorem chk_next (hx : l[i]? = some x) (hy : l[i - 1]? = some y) (hi : 0 < i) (h : ok x = true) (h2 : lt y x = true) (h0 : chkGo ok lt (prevL l i) (l.drop i) = T) : chkGo ok lt (prevL l (i + 1)) (l.drop (i + 1)) = T := by
  rw [← h0, drop_cons_of hx, chkGo, prevL_pos hy hi, h]
  show chkGo ok lt (l[i]?) _ = (true && (lt y x && _))
  rw [hx, h2]; rfl
theorem chk_end (hi : (l.length : Int) ≤ i) (h0 : chkGo ok lt (prevL l i) (l.drop i) = T) : T = true := by
  rw [← h0, get_le hi]; cases prevL l i <;> rfl
end
def rlGo {α : Type} (f : Rd → α × Rd) : Nat → List α → Rd → List α × Rd
  | 0, out, r => (out, r)
  | k + 1, out, r => if r.torn = true then (out, r) else rlGo f k (out ++ [(f r).1]) (f r).2
def rdL0 {α : Type} (f : Rd → α × Rd) (most : Int) (r : Rd) : List α × Rd := rlGo f (rInt most r).1.toNat [] (rInt most r).2
def rdL {α : Type} (f : Rd → α × Rd) (chk : List α → Bool) (most : Int) (r : Rd) : List α × Rd :=
  if (rdL0 f most r).2.torn = true ∨ chk (rdL0 f most r).1 = false then ([], ⟨(rdL0 f most r).2.s, true⟩) else rdL0 f most r
section
variable {α : Type} {f : Rd → α × Rd} {chk : List α → Bool} {most : Int} {r : Rd}
theorem rlGo_torn (k : Nat) (out : List α) (r : Rd) (h : r.torn = true) : rlGo f k out r = (out, r) := by
  cases k with
  | zero => rfl
  | succ k => rw [rlGo, if_pos h]
theorem rdL_bad (h : (rdL0 f most r).2.torn = true ∨ chk (rdL0 f most r).1 = false) : rdL f chk most r = ([], ⟨(rdL0 f most r).2.s, true⟩) := if_pos h
theorem rdL_ok (h1 : (rdL0 f most r).2.torn = false) (h2 : chk (rdL0 f most r).1 = true) : rdL f chk most r = rdL0 f most r := if_neg (by rw [h1, h2]; simp)
end

def tOk (t : Tg) : Bool := nameOk t.s && (!(decide (t.n < 1)) && !(decide (1048576 < t.n)))
def tLt (a b : Tg) : Bool := Op.bytesLess a.s b.s
def tCheck (l : List Tg) : Bool := decide (l.length ≤ 100) && chkGo tOk tLt none l
def rTag (r : Rd) : Tg × Rd := (⟨(rText 100 r).1, (rInt 1048576 (rText 100 r).2).1⟩, (rInt 1048576 (rText 100 r).2).2)
def rTags : Rd → List Tg × Rd := rdL rTag tCheck 100
theorem c110 (l : List Tg) (tg : Tag) : PCalls Go.Proofs.Tryz.prog 110 [.list (l.map tgV) tg] (.int .i64 (if tCheck l then 0 else 1)) := by
  refine pcalls_of_awp Go.Proofs.Tryz.func110 rfl (by decide) (Nat.le_of_ble_eq_true rfl) ?_
  intro B σ hB ho hob
  refine awp_region_k (fun _ => false) (by rw [hB]; rfl) fun K hK base hbase hfr => ?_
  refine tr_run ?_
  simp (disch := omega) only [go_sem, ↓reduceIte, za, zb, zc, zd, ze, zf, zg, zh, zi, zj, zk, zl, zm, zn, zo, dec_t, dec_f, ltI, leI, leN, le63, le40, le0, wrap64_id, wrapu64_id, wrap8_id]
  refine tr_nil (hK _ _ _ ?_)
  clear hK K hbase hfr base
  refine awp_seq ?_
  refine awp_region_k (fun _ => false) (by rw [hB]; rfl) fun K hK base hbase hfr => ?_
  refine tr_run ?_
  simp (disch := omega) only [go_sem, ↓reduceIte, za, zb, zc, zd, ze, zf, zg, zh, zi, zj, zk, zl, zm, zn, zo, dec_t, dec_f, ltI, leI, leN, le63, le40, le0, wrap64_id, wrapu64_id, wrap8_id]
  refine tr_nil (hK _ _ _ ?_)
  clear hK K hbase hfr base
  refine awp_len 5 rfl fun hlen => ?_
  simp only [List.length_map] at hlen
  refine awp_cond (rfl) (fun h1 => ?_) (fun h1 => ?_)
  · try simp only [yb, yc, yd, ye, yf, yg, yh, yi, yj, yk, yl, ym, yn, yo] at h1
    refine awp_region_k (fun _ => false) (by rw [hB]; rfl) fun K hK base hbase hfr => ?_
    refine tr_run ?_
    simp (disch := omega) only [go_sem, ↓reduceIte, za, zb, zc, zd, ze, zf, zg, zh, zi, zj, zk, zl, zm, zn, zo, dec_t, dec_f, ltI, leI, leN, le63, le40, le0, wrap64_id, wrapu64_id, wrap8_id]
    refine tr_nil (hK _ _ _ ?_)
    clear hK K hbase hfr base
    refine awp_ret ?_
    refine then_r ?_
    rw [show tCheck l = false by unfold tCheck; rw [dec_f (by omega)]; rfl]
    exact ⟨_, rfl, VW.refl _, fun _ _ h => h, fun _ h => h⟩
  · try simp only [yb, yc, yd, ye, yf, yg, yh, yi, yj, yk, yl, ym, yn, yo] at h1
    refine awp_skip ?_
    refine then_n ?_
    refine awp_seq ?_
    refine awp_region_k (fun _ => false) (by rw [hB]; rfl) fun K hK base hbase hfr => ?_
    refine tr_run ?_
    simp (disch := omega) only [go_sem, ↓reduceIte, za, zb, zc, zd, ze, zf, zg, zh, zi, zj, zk, zl, zm, zn, zo, dec_t, dec_f, ltI, leI, leN, le63, le40, le0, wrap64_id, wrapu64_id, wrap8_id]
    refine tr_nil (hK _ _ _ ?_)
    clear hK K hbase hfr base
    refine awp_block ?_
    refine awp_loop_w (α := Nat) (fun x => chkGo tOk tLt (prevL l x) (l.drop x) = chkGo tOk tLt none l) (fun x => [(0, .list (l.map tgV) tg), (2, .int .i64 0), (3, .int .i64 x)]) (fun x => []) (fun x => σ) (fun x => l.length - x) 0 ?_ ?_ (Boxes.subW_nil _) (Sh.sub_refl _) ?_
    · exact rfl
    · exact Env.subW_one rfl <| Env.subW_one rfl <| Env.subW_one rfl <| Env.subW_nil _
    rintro i h0
    try dsimp only at h0
    refine awp_seq ?_
    refine awp_region_k (fun _ => false) (by rw [hB]; rfl) fun K hK base hbase hfr => ?_
    refine tr_run ?_
    simp (disch := omega) only [go_sem, ↓reduceIte, za, zb, zc, zd, ze, zf, zg, zh, zi, zj, zk, zl, zm, zn, zo, dec_t, dec_f, ltI, leI, leN, le63, le40, le0, wrap64_id, wrapu64_id, wrap8_id]
    refine tr_nil (hK _ _ _ ?_)
    clear hK K hbase hfr base
    refine awp_cond (rfl) (fun h2 => ?_) (fun h2 => ?_)
    · try simp only [yb, yc, yd, ye, yf, yg, yh, yi, yj, yk, yl, ym, yn, yo] at h2
      obtain ⟨x, hx, hm, hi⟩ := get_of_lt h2
      obtain ⟨y, hy⟩ : ∃ y, l[i - 1]? = some y := ⟨l[i - 1], List.getElem?_eq_getElem (by omega)⟩
      have hip : ((i : Int) - 1).toNat = i - 1 := by omega
      refine awp_skip ?_
      refine then_n ?_
      refine awp_seq ?_
      refine awp_block ?_
      refine awp_region_k (fun _ => false) (by rw [hB]; rfl) fun K hK base hbase hfr => ?_
      refine tr_run ?_
      simp (disch := omega) only [go_sem, ↓reduceIte, za, zb, zc, zd, ze, zf, zg, zh, zi, zj, zk, zl, zm, zn, zo, hx, dec_t, dec_f, ltI, leI, leN, le63, le40, le0, wrap64_id, wrapu64_id, wrap8_id]
      refine tr_pc (by rfl) (by simp only [go_sem, ↓reduceIte, za, zb, zc, zd, ze, zf, zg, zh, zi, zj, zk, zl, zm, zn, zo, hx] <;> rfl) (c161 x.s) ?_
      simp (disch := omega) only [go_sem, ↓reduceIte, za, zb, zc, zd, ze, zf, zg, zh, zi, zj, zk, zl, zm, zn, zo, hx, dec_t, dec_f, ltI, leI, leN, le63, le40, le0, wrap64_id, wrapu64_id, wrap8_id]
      refine tr_nil (hK _ _ _ ?_)
      clear hK K hbase hfr base
      refine awp_drawn_k (fun _ => false) (fun _ => false) (by kernel_rfl) (by decide) (by rw [hB]; rfl) fun K hK base hbase hfr => ?_
      rcases q3 : nameOk x.s with _ | _
      · skip
        refine trd_run ?_
        try have hpos : (0 : Int) < (i : Int) := of_decide_eq_true (by assumption)
        simp (disch := omega) only [go_sem, ↓reduceIte, za, zb, zc, zd, ze, zf, zg, zh, zi, zj, zk, zl, zm, zn, zo, hx, hy, hip, q3, dec_t, dec_f, ltI, leI, leN, le63, le40, le0, wrap64_id, wrapu64_id, wrap8_id]
        refine trd_nil (hK _ _ _ ?_)
        clear hK K hbase hfr base
        try simp only [yb, yc, yd, ye, yf, yg, yh, yi, yj, yk, yl, ym, yn, yo] at q3
        refine awp_cond (rfl) (fun h4 => ?_) (fun h4 => by cases h4)
        refine awp_region_k (fun _ => false) (by rw [hB]; rfl) fun K hK base hbase hfr => ?_
        refine tr_run ?_
        simp (disch := omega) only [go_sem, ↓reduceIte, za, zb, zc, zd, ze, zf, zg, zh, zi, zj, zk, zl, zm, zn, zo, dec_t, dec_f, ltI, leI, leN, le63, le40, le0, wrap64_id, wrapu64_id, wrap8_id]
        refine tr_nil (hK _ _ _ ?_)
        clear hK K hbase hfr base
        refine awp_ret ?_
        refine block_r ?_
        refine then_r ?_
        refine then_r ?_
        refine block_r ?_
        refine then_r ?_
        rw [show tCheck l = false by unfold tCheck; rw [chk_ok hx (by unfold tOk; simp_all) h0]; simp]
        exact ⟨_, rfl, VW.refl _, fun _ _ h => h, fun _ h => h⟩
      · skip
        rcases q5 : decide (x.n < 1) with _ | _
        · skip
          rcases q6 : decide (1048576 < x.n) with _ | _
          · skip
            rcases q7 : decide ((0 : Int) < (i : Int)) with _ | _
            · skip
              refine trd_run ?_
              try have hpos : (0 : Int) < (i : Int) := of_decide_eq_true (by assumption)
              simp (disch := omega) only [go_sem, ↓reduceIte, za, zb, zc, zd, ze, zf, zg, zh, zi, zj, zk, zl, zm, zn, zo, hx, hy, hip, q3, q5, q6, q7, dec_t, dec_f, ltI, leI, leN, le63, le40, le0, wrap64_id, wrapu64_id, wrap8_id]
              refine trd_nil (hK _ _ _ ?_)
              clear hK K hbase hfr base
              try simp only [yb, yc, yd, ye, yf, yg, yh, yi, yj, yk, yl, ym, yn, yo] at q3
              try simp only [yb, yc, yd, ye, yf, yg, yh, yi, yj, yk, yl, ym, yn, yo] at q5
              try simp only [yb, yc, yd, ye, yf, yg, yh, yi, yj, yk, yl, ym, yn, yo] at q6
              try simp only [yb, yc, yd, ye, yf, yg, yh, yi, yj, yk, yl, ym, yn, yo] at q7
              refine awp_cond (rfl) (fun h8 => by cases h8) (fun h8 => ?_)
              refine awp_skip ?_
              refine block_n ?_
              refine then_n ?_
              refine awp_region_e (fun _ => false) (by rw [hB]; rfl) fun K hK base hbase hfr => ?_
              refine tr_run ?_
              simp (disch := omega) only [go_sem, ↓reduceIte, za, zb, zc, zd, ze, zf, zg, zh, zi, zj, zk, zl, zm, zn, zo, dec_t, dec_f, ltI, leI, leN, le63, le40, le0, wrap64_id, wrapu64_id, wrap8_id]
              refine tr_nil (hK _ _ _ ?_)
              clear hK K hbase hfr base
              refine then_n ⟨i + 1, ?_, ?_, ?_, ?_, Sh.sub_refl _⟩
              · exact chk_zero hx (by omega) (by unfold tOk; simp_all) h0
              · show l.length - (i + 1) < l.length - i; omega
              · exact Env.subW_one rfl <| Env.subW_one rfl <| Env.subW_one rfl <| Env.subW_nil _
              · exact Boxes.subW_nil _
            · skip
              refine trd_run ?_
              try have hpos : (0 : Int) < (i : Int) := of_decide_eq_true (by assumption)
              simp (disch := omega) only [go_sem, ↓reduceIte, za, zb, zc, zd, ze, zf, zg, zh, zi, zj, zk, zl, zm, zn, zo, hx, hy, hip, q3, q5, q6, q7, dec_t, dec_f, ltI, leI, leN, le63, le40, le0, wrap64_id, wrapu64_id, wrap8_id]
              refine trd_nil (hK _ _ _ ?_)
              clear hK K hbase hfr base
              try simp only [yb, yc, yd, ye, yf, yg, yh, yi, yj, yk, yl, ym, yn, yo] at q3
              try simp only [yb, yc, yd, ye, yf, yg, yh, yi, yj, yk, yl, ym, yn, yo] at q5
              try simp only [yb, yc, yd, ye, yf, yg, yh, yi, yj, yk, yl, ym, yn, yo] at q6
              try simp only [yb, yc, yd, ye, yf, yg, yh, yi, yj, yk, yl, ym, yn, yo] at q7
              refine awp_cond (rfl) (fun h9 => ?_) (fun h9 => ?_)
              · try simp only [yb, yc, yd, ye, yf, yg, yh, yi, yj, yk, yl, ym, yn, yo] at h9
                refine awp_region_k (fun _ => false) (by rw [hB]; rfl) fun K hK base hbase hfr => ?_
                refine tr_run ?_
                simp (disch := omega) only [go_sem, ↓reduceIte, za, zb, zc, zd, ze, zf, zg, zh, zi, zj, zk, zl, zm, zn, zo, dec_t, dec_f, ltI, leI, leN, le63, le40, le0, wrap64_id, wrapu64_id, wrap8_id]
                refine tr_nil (hK _ _ _ ?_)
                clear hK K hbase hfr base
                refine awp_ret ?_
                refine block_r ?_
                refine then_r ?_
                refine then_r ?_
                refine block_r ?_
                refine then_r ?_
                rw [show tCheck l = false by unfold tCheck; rw [chk_lt hx hy (by omega) (by show Op.bytesLess y.s x.s = false; simp_all) h0]; simp]
                exact ⟨_, rfl, VW.refl _, fun _ _ h => h, fun _ h => h⟩
              · try simp only [yb, yc, yd, ye, yf, yg, yh, yi, yj, yk, yl, ym, yn, yo] at h9
                refine awp_skip ?_
                refine block_n ?_
                refine then_n ?_
                refine awp_region_e (fun _ => false) (by rw [hB]; rfl) fun K hK base hbase hfr => ?_
                refine tr_run ?_
                simp (disch := omega) only [go_sem, ↓reduceIte, za, zb, zc, zd, ze, zf, zg, zh, zi, zj, zk, zl, zm, zn, zo, dec_t, dec_f, ltI, leI, leN, le63, le40, le0, wrap64_id, wrapu64_id, wrap8_id]
                refine tr_nil (hK _ _ _ ?_)
                clear hK K hbase hfr base
                refine then_n ⟨i + 1, ?_, ?_, ?_, ?_, Sh.sub_refl _⟩
                · exact chk_next hx hy (by omega) (by unfold tOk; simp_all) (by show Op.bytesLess y.s x.s = true; simp_all) h0
                · show l.length - (i + 1) < l.length - i; omega
                · exact Env.subW_one rfl <| Env.subW_one rfl <| Env.subW_one rfl <| Env.subW_nil _
                · exact Boxes.subW_nil _
          · skip
            refine trd_run ?_
            try have hpos : (0 : Int) < (i : Int) := of_decide_eq_true (by assumption)
            simp (disch := omega) only [go_sem, ↓reduceIte, za, zb, zc, zd, ze, zf, zg, zh, zi, zj, zk, zl, zm, zn, zo, hx, hy, hip, q3, q5, q6, dec_t, dec_f, ltI, leI, leN, le63, le40, le0, wrap64_id, wrapu64_id, wrap8_id]
            refine trd_nil (hK _ _ _ ?_)
            clear hK K hbase hfr base
            try simp only [yb, yc, yd, ye, yf, yg, yh, yi, yj, yk, yl, ym, yn, yo] at q3
            try simp only [yb, yc, yd, ye, yf, yg, yh, yi, yj, yk, yl, ym, yn, yo] at q5
            try simp only [yb, yc, yd, ye, yf, yg, yh, yi, yj, yk, yl, ym, yn, yo] at q6
            refine awp_cond (rfl) (fun h10 => ?_) (fun h10 => by cases h10)
            refine awp_region_k (fun _ => false) (by rw [hB]; rfl) fun K hK base hbase hfr => ?_
            refine tr_run ?_
            simp (disch := omega) only [go_sem, ↓reduceIte, za, zb, zc, zd, ze, zf, zg, zh, zi, zj, zk, zl, zm, zn, zo, dec_t, dec_f, ltI, leI, leN, le63, le40, le0, wrap64_id, wrapu64_id, wrap8_id]
            refine tr_nil (hK _ _ _ ?_)
            clear hK K hbase hfr base
            refine awp_ret ?_
            refine block_r ?_
            refine then_r ?_
            refine then_r ?_
            refine block_r ?_
            refine then_r ?_
            rw [show tCheck l = false by unfold tCheck; rw [chk_ok hx (by unfold tOk; simp_all) h0]; simp]
            exact ⟨_, rfl, VW.refl _, fun _ _ h => h, fun _ h => h⟩
        · skip
          refine trd_run ?_
          try have hpos : (0 : Int) < (i : Int) := of_decide_eq_true (by assumption)
          simp (disch := omega) only [go_sem, ↓reduceIte, za, zb, zc, zd, ze, zf, zg, zh, zi, zj, zk, zl, zm, zn, zo, hx, hy, hip, q3, q5, dec_t, dec_f, ltI, leI, leN, le63, le40, le0, wrap64_id, wrapu64_id, wrap8_id]
          refine trd_nil (hK _ _ _ ?_)
          clear hK K hbase hfr base
          try simp only [yb, yc, yd, ye, yf, yg, yh, yi, yj, yk, yl, ym, yn, yo] at q3
          try simp only [yb, yc, yd, ye, yf, yg, yh, yi, yj, yk, yl, ym, yn, yo] at q5
          refine awp_cond (rfl) (fun h11 => ?_) (fun h11 => by cases h11)
          refine awp_region_k (fun _ => false) (by rw [hB]; rfl) fun K hK base hbase hfr => ?_
          refine tr_run ?_
          simp (disch := omega) only [go_sem, ↓reduceIte, za, zb, zc, zd, ze, zf, zg, zh, zi, zj, zk, zl, zm, zn, zo, dec_t, dec_f, ltI, leI, leN, le63, le40, le0, wrap64_id, wrapu64_id, wrap8_id]
          refine tr_nil (hK _ _ _ ?_)
          clear hK K hbase hfr base
          refine awp_ret ?_
          refine block_r ?_
          refine then_r ?_
          refine then_r ?_
          refine block_r ?_
          refine then_r ?_
          rw [show tCheck l = false by unfold tCheck; rw [chk_ok hx (by unfold tOk; simp_all) h0]; simp]
          exact ⟨_, rfl, VW.refl _, fun _ _ h => h, fun _ h => h⟩
    · try simp only [yb, yc, yd, ye, yf, yg, yh, yi, yj, yk, yl, ym, yn, yo] at h2
      refine awp_exit ?_
      refine then_x ?_
      refine then_x ?_
      refine block_x ?_
      refine then_n ?_
      refine awp_region_k (fun _ => false) (by rw [hB]; rfl) fun K hK base hbase hfr => ?_
      refine tr_run ?_
      simp (disch := omega) only [go_sem, ↓reduceIte, za, zb, zc, zd, ze, zf, zg, zh, zi, zj, zk, zl, zm, zn, zo, dec_t, dec_f, ltI, leI, leN, le63, le40, le0, wrap64_id, wrapu64_id, wrap8_id]
      refine tr_nil (hK _ _ _ ?_)
      clear hK K hbase hfr base
      refine awp_ret ?_
      rw [show tCheck l = true by unfold tCheck; rw [dec_t (by omega), chk_end (by omega) h0]; rfl]
      exact ⟨_, rfl, VW.refl _, fun _ _ h => h, fun _ h => h⟩
theorem c49 (σ : Sh) (oid : Nat) (r : Rd) (hσ : σ.ob oid = some (.cells (rdV r))) : WCalls Go.Proofs.Tryz.prog 49 [.ptr oid 0] σ (.list ((rdL rTag tCheck 100 r).1.map tgV) .no) (σ.setOb oid (.cells (rdV (rdL rTag tCheck 100 r).2))) := by
  obtain ⟨hge, hle⟩ := rInt_le 100 r (by decide)
  refine wcalls_of_awp Go.Proofs.Tryz.func49 rfl (by decide) (Nat.le_of_ble_eq_true rfl) ?_
  intro B hB ho hob
  refine awp_region_k (fun _ => false) (by rw [hB]; rfl) fun K hK base hbase hfr => ?_
  refine tr_run ?_
  simp (disch := omega) only [go_sem, ↓reduceIte, za, zb, zc, zd, ze, zf, zg, zh, zi, zj, zk, zl, zm, zn, zo, dec_t, dec_f, ltI, leI, leN, le63, le40, le0, wrap64_id, wrapu64_id, wrap8_id]
  refine tr_nil (hK _ _ _ ?_)
  clear hK K hbase hfr base
  refine awp_region_k (fun _ => false) (by rw [hB]; rfl) fun K hK base hbase hfr => ?_
  refine tr_run ?_
  simp (disch := omega) only [go_sem, ↓reduceIte, za, zb, zc, zd, ze, zf, zg, zh, zi, zj, zk, zl, zm, zn, zo, dec_t, dec_f, ltI, leI, leN, le63, le40, le0, wrap64_id, wrapu64_id, wrap8_id]
  refine tr_wc (by rfl) (by simp only [go_sem, ↓reduceIte, za, zb, zc, zd, ze, zf, zg, zh, zi, zj, zk, zl, zm, zn, zo] <;> rfl) (c45 σ oid r _ (by decide) (by unfold I63; decide) hσ) ?_
  simp (disch := omega) only [go_sem, ↓reduceIte, za, zb, zc, zd, ze, zf, zg, zh, zi, zj, zk, zl, zm, zn, zo, dec_t, dec_f, ltI, leI, leN, le63, le40, le0, wrap64_id, wrapu64_id, wrap8_id]
  refine tr_nil (hK _ _ _ ?_)
  clear hK K hbase hfr base
  refine awp_region_k (fun _ => false) (by rw [hB]; rfl) fun K hK base hbase hfr => ?_
  refine tr_run ?_
  simp (disch := omega) only [go_sem, ↓reduceIte, za, zb, zc, zd, ze, zf, zg, zh, zi, zj, zk, zl, zm, zn, zo, dec_t, dec_f, ltI, leI, leN, le63, le40, le0, wrap64_id, wrapu64_id, wrap8_id]
  refine tr_nil (hK _ _ _ ?_)
  clear hK K hbase hfr base
  refine awp_seq ?_
  refine awp_region_k (fun _ => false) (by rw [hB]; rfl) fun K hK base hbase hfr => ?_
  refine tr_run ?_
  simp (disch := omega) only [go_sem, ↓reduceIte, za, zb, zc, zd, ze, zf, zg, zh, zi, zj, zk, zl, zm, zn, zo, dec_t, dec_f, ltI, leI, leN, le63, le40, le0, wrap64_id, wrapu64_id, wrap8_id]
  refine tr_nil (hK _ _ _ ?_)
  clear hK K hbase hfr base
  refine awp_block ?_
  refine awp_tok 4 rfl fun t0 ht0 => ?_
  refine awp_loop_w (α := Nat × List Tg × Nat × Rd) (fun x => rlGo rTag ((rInt 100 r).1.toNat - x.1) x.2.1 x.2.2.2 = rdL0 rTag 100 r ∧ x.2.1.length ≤ x.1 ∧ x.1 ≤ (rInt 100 r).1.toNat ∧ B.g.nt ≤ x.2.2.1) (fun x => [(0, .ptr oid 0), (3, .int .i64 (rInt 100 r).1), (4, .list (x.2.1.map tgV) (.tok x.2.2.1)), (5, .int .i64 x.1)]) (fun x => []) (fun x => ({ σ with live := x.2.2.1 :: σ.live } : Sh).setOb oid (.cells (rdV x.2.2.2))) (fun x => (rInt 100 r).1.toNat - x.1) (0, [], t0, (rInt 100 r).2) ?_ ?_ (Boxes.subW_nil _) (Sh.sub_refl _) ?_
  · exact ⟨rfl, Nat.le_refl _, Nat.zero_le _, ht0⟩
  · exact Env.subW_one rfl <| Env.subW_one rfl <| Env.subW_one rfl <| Env.subW_one rfl <| Env.subW_nil _
  rintro ⟨i, out, t, rr⟩ ⟨hG, ho1, ho2, ht⟩
  try dsimp only at hG ho1 ho2 ht
  refine awp_seq ?_
  refine awp_region_k (fun _ => false) (by rw [hB]; rfl) fun K hK base hbase hfr => ?_
  rcases q1 : decide ((i : Int) < (rInt 100 r).1) with _ | _
  · skip
    refine tr_run ?_
    simp (disch := omega) only [go_sem, ↓reduceIte, za, zb, zc, zd, ze, zf, zg, zh, zi, zj, zk, zl, zm, zn, zo, q1, dec_t, dec_f, ltI, leI, leN, le63, le40, le0, wrap64_id, wrapu64_id, wrap8_id]
    refine tr_nil (hK _ _ _ ?_)
    clear hK K hbase hfr base
    try simp only [yb, yc, yd, ye, yf, yg, yh, yi, yj, yk, yl, ym, yn, yo] at q1
    refine awp_cond (rfl) (fun h2 => by cases h2) (fun h2 => ?_)
    refine awp_exit ?_
    refine then_x ?_
    refine then_x ?_
    refine block_x ?_
    refine then_n ?_
    have hres : rdL0 rTag 100 r = (out, rr) := by rw [← hG, show (rInt 100 r).1.toNat - i = 0 by omega]; rfl
    refine awp_seq ?_
    refine awp_region_k (fun _ => false) (by rw [hB]; rfl) fun K hK base hbase hfr => ?_
    rcases q3 : rr.torn with _ | _
    · skip
      refine tr_run ?_
      simp (disch := omega) only [go_sem, ↓reduceIte, za, zb, zc, zd, ze, zf, zg, zh, zi, zj, zk, zl, zm, zn, zo, q3, dec_t, dec_f, ltI, leI, leN, le63, le40, le0, wrap64_id, wrapu64_id, wrap8_id]
      refine tr_pc (by simp only [go_sem, ↓reduceIte, za, zb, zc, zd, ze, zf, zg, zh, zi, zj, zk, zl, zm, zn, zo, q3]) (by simp only [go_sem, ↓reduceIte, za, zb, zc, zd, ze, zf, zg, zh, zi, zj, zk, zl, zm, zn, zo, q3] <;> rfl) (c110 out (.tok t)) ?_
      simp (disch := omega) only [go_sem, ↓reduceIte, za, zb, zc, zd, ze, zf, zg, zh, zi, zj, zk, zl, zm, zn, zo, q3, dec_t, dec_f, ltI, leI, leN, le63, le40, le0, wrap64_id, wrapu64_id, wrap8_id]
      refine tr_nil (hK _ _ _ ?_)
      clear hK K hbase hfr base
      try simp only [yb, yc, yd, ye, yf, yg, yh, yi, yj, yk, yl, ym, yn, yo] at q3
      refine awp_cond (rfl) (fun h4 => ?_) (fun h4 => ?_)
      · try simp only [yb, yc, yd, ye, yf, yg, yh, yi, yj, yk, yl, ym, yn, yo] at h4
        refine awp_region_k (fun _ => false) (by rw [hB]; rfl) fun K hK base hbase hfr => ?_
        refine tr_run ?_
        simp (disch := omega) only [go_sem, ↓reduceIte, za, zb, zc, zd, ze, zf, zg, zh, zi, zj, zk, zl, zm, zn, zo, dec_t, dec_f, ltI, leI, leN, le63, le40, le0, wrap64_id, wrapu64_id, wrap8_id]
        refine tr_nil (hK _ _ _ ?_)
        clear hK K hbase hfr base
        refine awp_region_k (fun _ => false) (by rw [hB]; rfl) fun K hK base hbase hfr => ?_
        refine tr_run ?_
        simp (disch := omega) only [go_sem, ↓reduceIte, za, zb, zc, zd, ze, zf, zg, zh, zi, zj, zk, zl, zm, zn, zo, dec_t, dec_f, ltI, leI, leN, le63, le40, le0, wrap64_id, wrapu64_id, wrap8_id]
        refine tr_nil (hK _ _ _ ?_)
        clear hK K hbase hfr base
        refine awp_ret ?_
        refine then_r ?_
        have e : tCheck out = false := by cases hh : tCheck out <;> simp_all
        rw [rdL_bad (.inr (by rw [hres]; exact e)), hres]
        exact ⟨_, rfl, (.one (.one (.no _ _))), fun _ _ h => h, fun _ h => List.mem_cons_of_mem _ h⟩
      · try simp only [yb, yc, yd, ye, yf, yg, yh, yi, yj, yk, yl, ym, yn, yo] at h4
        refine awp_skip ?_
        refine then_n ?_
        refine awp_region_k (fun _ => false) (by rw [hB]; rfl) fun K hK base hbase hfr => ?_
        refine tr_run ?_
        simp (disch := omega) only [go_sem, ↓reduceIte, za, zb, zc, zd, ze, zf, zg, zh, zi, zj, zk, zl, zm, zn, zo, dec_t, dec_f, ltI, leI, leN, le63, le40, le0, wrap64_id, wrapu64_id, wrap8_id]
        refine tr_nil (hK _ _ _ ?_)
        clear hK K hbase hfr base
        refine awp_ret ?_
        have e : tCheck out = true := by cases hh : tCheck out <;> simp_all
        have e2 : rr.torn = false := by assumption
        rw [rdL_ok (by rw [hres]; exact e2) (by rw [hres]; exact e), hres, show rdV (out, rr).2 = [.str rr.s, .bool false] by rw [← e2]; rfl]
        exact ⟨_, rfl, (.one (.one (.no _ _))), fun _ _ h => h, fun _ h => List.mem_cons_of_mem _ h⟩
    · skip
      refine tr_run ?_
      simp (disch := omega) only [go_sem, ↓reduceIte, za, zb, zc, zd, ze, zf, zg, zh, zi, zj, zk, zl, zm, zn, zo, q3, dec_t, dec_f, ltI, leI, leN, le63, le40, le0, wrap64_id, wrapu64_id, wrap8_id]
      refine tr_nil (hK _ _ _ ?_)
      clear hK K hbase hfr base
      try simp only [yb, yc, yd, ye, yf, yg, yh, yi, yj, yk, yl, ym, yn, yo] at q3
      refine awp_cond (rfl) (fun h5 => ?_) (fun h5 => by cases h5)
      refine awp_region_k (fun _ => false) (by rw [hB]; rfl) fun K hK base hbase hfr => ?_
      refine tr_run ?_
      simp (disch := omega) only [go_sem, ↓reduceIte, za, zb, zc, zd, ze, zf, zg, zh, zi, zj, zk, zl, zm, zn, zo, dec_t, dec_f, ltI, leI, leN, le63, le40, le0, wrap64_id, wrapu64_id, wrap8_id]
      refine tr_nil (hK _ _ _ ?_)
      clear hK K hbase hfr base
      refine awp_region_k (fun _ => false) (by rw [hB]; rfl) fun K hK base hbase hfr => ?_
      refine tr_run ?_
      simp (disch := omega) only [go_sem, ↓reduceIte, za, zb, zc, zd, ze, zf, zg, zh, zi, zj, zk, zl, zm, zn, zo, dec_t, dec_f, ltI, leI, leN, le63, le40, le0, wrap64_id, wrapu64_id, wrap8_id]
      refine tr_nil (hK _ _ _ ?_)
      clear hK K hbase hfr base
      refine awp_ret ?_
      refine then_r ?_
      rw [rdL_bad (.inl (by rw [hres]; assumption)), hres]
      exact ⟨_, rfl, (.one (.one (.no _ _))), fun _ _ h => h, fun _ h => List.mem_cons_of_mem _ h⟩
  · skip
    refine tr_run ?_
    simp (disch := omega) only [go_sem, ↓reduceIte, za, zb, zc, zd, ze, zf, zg, zh, zi, zj, zk, zl, zm, zn, zo, q1, dec_t, dec_f, ltI, leI, leN, le63, le40, le0, wrap64_id, wrapu64_id, wrap8_id]
    refine tr_nil (hK _ _ _ ?_)
    clear hK K hbase hfr base
    try simp only [yb, yc, yd, ye, yf, yg, yh, yi, yj, yk, yl, ym, yn, yo] at q1
    refine awp_cond (rfl) (fun h6 => ?_) (fun h6 => ?_)
    · try simp only [yb, yc, yd, ye, yf, yg, yh, yi, yj, yk, yl, ym, yn, yo] at h6
      have htn : rr.torn = false := by cases hh : rr.torn <;> simp_all
      refine awp_skip ?_
      refine then_n ?_
      refine awp_seq ?_
      refine awp_block ?_
      refine awp_region_k (fun _ => false) (by rw [hB]; rfl) fun K hK base hbase hfr => ?_
      refine tr_run ?_
      simp (disch := omega) only [go_sem, ↓reduceIte, za, zb, zc, zd, ze, zf, zg, zh, zi, zj, zk, zl, zm, zn, zo, dec_t, dec_f, ltI, leI, leN, le63, le40, le0, wrap64_id, wrapu64_id, wrap8_id]
      refine tr_wc (by rfl) (by simp only [go_sem, ↓reduceIte, za, zb, zc, zd, ze, zf, zg, zh, zi, zj, zk, zl, zm, zn, zo] <;> rfl) (c107 _ oid rr _ (by decide) (by unfold I63; decide) (setOb_same _ _ _)) ?_
      simp (disch := omega) only [go_sem, ↓reduceIte, za, zb, zc, zd, ze, zf, zg, zh, zi, zj, zk, zl, zm, zn, zo, dec_t, dec_f, ltI, leI, leN, le63, le40, le0, wrap64_id, wrapu64_id, wrap8_id]
      refine tr_nil (hK _ _ _ ?_)
      clear hK K hbase hfr base
      refine awp_region_k (fun _ => false) (by rw [hB]; rfl) fun K hK base hbase hfr => ?_
      refine tr_run ?_
      simp (disch := omega) only [go_sem, ↓reduceIte, za, zb, zc, zd, ze, zf, zg, zh, zi, zj, zk, zl, zm, zn, zo, dec_t, dec_f, ltI, leI, leN, le63, le40, le0, wrap64_id, wrapu64_id, wrap8_id]
      refine tr_wc (by rfl) (by simp only [go_sem, ↓reduceIte, za, zb, zc, zd, ze, zf, zg, zh, zi, zj, zk, zl, zm, zn, zo] <;> rfl) (c45 _ oid (rText 100 rr).2 _ (by decide) (by unfold I63; decide) (setOb_same _ _ _)) ?_
      simp (disch := omega) only [go_sem, ↓reduceIte, za, zb, zc, zd, ze, zf, zg, zh, zi, zj, zk, zl, zm, zn, zo, dec_t, dec_f, ltI, leI, leN, le63, le40, le0, wrap64_id, wrapu64_id, wrap8_id]
      refine tr_nil (hK _ _ _ ?_)
      clear hK K hbase hfr base
      refine awp_region_e (fun _ => false) (by rw [hB]; rfl) fun K hK base hbase hfr => ?_
      refine tr_run ?_
      simp (disch := omega) only [go_sem, ↓reduceIte, za, zb, zc, zd, ze, zf, zg, zh, zi, zj, zk, zl, zm, zn, zo, ho, dec_t, dec_f, ltI, leI, leN, le63, le40, le0, wrap64_id, wrapu64_id, wrap8_id]
      refine tr_nil (hK _ _ _ ?_)
      clear hK K hfr
      refine block_n ?_
      refine then_n ?_
      refine awp_region_e (fun _ => false) (by rw [hB]; rfl) fun K hK base hbase hfr => ?_
      refine tr_run ?_
      simp (disch := omega) only [go_sem, ↓reduceIte, za, zb, zc, zd, ze, zf, zg, zh, zi, zj, zk, zl, zm, zn, zo, dec_t, dec_f, ltI, leI, leN, le63, le40, le0, wrap64_id, wrapu64_id, wrap8_id]
      refine tr_nil (hK _ _ _ ?_)
      clear hK K hbase hfr base
      refine then_n ⟨(i + 1, out ++ [(rTag rr).1], base + 3, (rTag rr).2), ?_, ?_, ?_, ?_, ⟨fun _ _ h => h, fun _ h => h⟩⟩
      · refine ⟨?_, ?_, ?_, Nat.le_trans hbase (Nat.le_add_right _ _)⟩
        · show rlGo rTag ((rInt 100 r).1.toNat - (i + 1)) (out ++ [(rTag rr).1]) (rTag rr).2 = _
          rw [← hG, show (rInt 100 r).1.toNat - i = ((rInt 100 r).1.toNat - (i + 1)) + 1 by omega, rlGo, if_neg (by rw [htn]; decide)]
        · show (out ++ [(rTag rr).1]).length ≤ i + 1; simp only [List.length_append, List.length_cons, List.length_nil]; omega
        · show i + 1 ≤ _; omega
      · show (rInt 100 r).1.toNat - (i + 1) < (rInt 100 r).1.toNat - i; omega
      · exact Env.subW_one rfl <| Env.subW_one rfl <| Env.subW_one (by rw [map_snoc]; rfl) <| Env.subW_one rfl <| Env.subW_nil _
      · exact Boxes.subW_nil _
    · try simp only [yb, yc, yd, ye, yf, yg, yh, yi, yj, yk, yl, ym, yn, yo] at h6
      have htn : rr.torn = true := by cases hh : rr.torn <;> simp_all
      refine awp_exit ?_
      refine then_x ?_
      refine then_x ?_
      refine block_x ?_
      refine then_n ?_
      have hres : rdL0 rTag 100 r = (out, rr) := by rw [← hG, rlGo_torn _ _ _ htn]
      refine awp_seq ?_
      refine awp_region_k (fun _ => false) (by rw [hB]; rfl) fun K hK base hbase hfr => ?_
      rcases q7 : rr.torn with _ | _
      · skip
        refine tr_run ?_
        simp (disch := omega) only [go_sem, ↓reduceIte, za, zb, zc, zd, ze, zf, zg, zh, zi, zj, zk, zl, zm, zn, zo, q7, dec_t, dec_f, ltI, leI, leN, le63, le40, le0, wrap64_id, wrapu64_id, wrap8_id]
        refine tr_pc (by simp only [go_sem, ↓reduceIte, za, zb, zc, zd, ze, zf, zg, zh, zi, zj, zk, zl, zm, zn, zo, q7]) (by simp only [go_sem, ↓reduceIte, za, zb, zc, zd, ze, zf, zg, zh, zi, zj, zk, zl, zm, zn, zo, q7] <;> rfl) (c110 out (.tok t)) ?_
        simp (disch := omega) only [go_sem, ↓reduceIte, za, zb, zc, zd, ze, zf, zg, zh, zi, zj, zk, zl, zm, zn, zo, q7, dec_t, dec_f, ltI, leI, leN, le63, le40, le0, wrap64_id, wrapu64_id, wrap8_id]
        refine tr_nil (hK _ _ _ ?_)
        clear hK K hbase hfr base
        try simp only [yb, yc, yd, ye, yf, yg, yh, yi, yj, yk, yl, ym, yn, yo] at q7
        refine awp_cond (rfl) (fun h8 => ?_) (fun h8 => ?_)
        · try simp only [yb, yc, yd, ye, yf, yg, yh, yi, yj, yk, yl, ym, yn, yo] at h8
          refine awp_region_k (fun _ => false) (by rw [hB]; rfl) fun K hK base hbase hfr => ?_
          refine tr_run ?_
          simp (disch := omega) only [go_sem, ↓reduceIte, za, zb, zc, zd, ze, zf, zg, zh, zi, zj, zk, zl, zm, zn, zo, dec_t, dec_f, ltI, leI, leN, le63, le40, le0, wrap64_id, wrapu64_id, wrap8_id]
          refine tr_nil (hK _ _ _ ?_)
          clear hK K hbase hfr base
          refine awp_region_k (fun _ => false) (by rw [hB]; rfl) fun K hK base hbase hfr => ?_
          refine tr_run ?_
          simp (disch := omega) only [go_sem, ↓reduceIte, za, zb, zc, zd, ze, zf, zg, zh, zi, zj, zk, zl, zm, zn, zo, dec_t, dec_f, ltI, leI, leN, le63, le40, le0, wrap64_id, wrapu64_id, wrap8_id]
          refine tr_nil (hK _ _ _ ?_)
          clear hK K hbase hfr base
          refine awp_ret ?_
          refine then_r ?_
          have e : tCheck out = false := by cases hh : tCheck out <;> simp_all
          rw [rdL_bad (.inr (by rw [hres]; exact e)), hres]
          exact ⟨_, rfl, (.one (.one (.no _ _))), fun _ _ h => h, fun _ h => List.mem_cons_of_mem _ h⟩
        · try simp only [yb, yc, yd, ye, yf, yg, yh, yi, yj, yk, yl, ym, yn, yo] at h8
          refine awp_skip ?_
          refine then_n ?_
          refine awp_region_k (fun _ => false) (by rw [hB]; rfl) fun K hK base hbase hfr => ?_
          refine tr_run ?_
          simp (disch := omega) only [go_sem, ↓reduceIte, za, zb, zc, zd, ze, zf, zg, zh, zi, zj, zk, zl, zm, zn, zo, dec_t, dec_f, ltI, leI, leN, le63, le40, le0, wrap64_id, wrapu64_id, wrap8_id]
          refine tr_nil (hK _ _ _ ?_)
          clear hK K hbase hfr base
          refine awp_ret ?_
          have e : tCheck out = true := by cases hh : tCheck out <;> simp_all
          have e2 : rr.torn = false := by assumption
          rw [rdL_ok (by rw [hres]; exact e2) (by rw [hres]; exact e), hres, show rdV (out, rr).2 = [.str rr.s, .bool false] by rw [← e2]; rfl]
          exact ⟨_, rfl, (.one (.one (.no _ _))), fun _ _ h => h, fun _ h => List.mem_cons_of_mem _ h⟩
      · skip
        refine tr_run ?_
        simp (disch := omega) only [go_sem, ↓reduceIte, za, zb, zc, zd, ze, zf, zg, zh, zi, zj, zk, zl, zm, zn, zo, q7, dec_t, dec_f, ltI, leI, leN, le63, le40, le0, wrap64_id, wrapu64_id, wrap8_id]
        refine tr_nil (hK _ _ _ ?_)
        clear hK K hbase hfr base
        try simp only [yb, yc, yd, ye, yf, yg, yh, yi, yj, yk, yl, ym, yn, yo] at q7
        refine awp_cond (rfl) (fun h9 => ?_) (fun h9 => by cases h9)
        refine awp_region_k (fun _ => false) (by rw [hB]; rfl) fun K hK base hbase hfr => ?_
        refine tr_run ?_
        simp (disch := omega) only [go_sem, ↓reduceIte, za, zb, zc, zd, ze, zf, zg, zh, zi, zj, zk, zl, zm, zn, zo, dec_t, dec_f, ltI, leI, leN, le63, le40, le0, wrap64_id, wrapu64_id, wrap8_id]
        refine tr_nil (hK _ _ _ ?_)
        clear hK K hbase hfr base
        refine awp_region_k (fun _ => false) (by rw [hB]; rfl) fun K hK base hbase hfr => ?_
        refine tr_run ?_
        simp (disch := omega) only [go_sem, ↓reduceIte, za, zb, zc, zd, ze, zf, zg, zh, zi, zj, zk, zl, zm, zn, zo, dec_t, dec_f, ltI, leI, leN, le63, le40, le0, wrap64_id, wrapu64_id, wrap8_id]
        refine tr_nil (hK _ _ _ ?_)
        clear hK K hbase hfr base
        refine awp_ret ?_
        refine then_r ?_
        rw [rdL_bad (.inl (by rw [hres]; assumption)), hres]
        exact ⟨_, rfl, (.one (.one (.no _ _))), fun _ _ h => h, fun _ h => List.mem_cons_of_mem _ h⟩
end Go.Am
