/- What functions of this program compute, a part: see the main text. No conditions. -/
import Derived.Test.YtanpeaakmdffcaaGreatW06
set_option linter.all false
set_option maxRecDepth 100000
namespace Go.Am
open Go

/-- There is a way of edges from one operation back to another one. -/
inductive Path (ops : Array Oper) : Nat → Nat → Prop
  | edge {j : Nat} {o : Oper} {e : Edge} (ho : ops[j]? = some o) (he : e ∈ o.after) (hb : Region.binds .any e = true) : Path ops j e.on
  | more {j i : Nat} {o : Oper} {e : Edge} (ho : ops[j]? = some o) (he : e ∈ o.after) (hb : Region.binds .any e = true) (h : Path ops e.on i) : Path ops j i

/-- The operations ahead of each one, as bits. -/
def masks : List Oper → List Nat → List Nat
  | [], acc => acc
  | o :: l, acc => masks l (acc ++ [o.after.toList.foldl (fun s e => if Region.binds .any e then s ||| 2 ^ e.on ||| acc.getD e.on 0 else s) 0])

theorem foldl_mask {acc : List Nat} {i : Nat} : ∀ (es : List Edge) (s : Nat), (es.foldl (fun s e => if Region.binds .any e then s ||| 2 ^ e.on ||| acc.getD e.on 0 else s) s).testBit i = true →
    s.testBit i = true ∨ ∃ e ∈ es, Region.binds .any e = true ∧ (e.on = i ∨ (acc.getD e.on 0).testBit i = true)
  | [], s, h => .inl h
  | e :: es, s, h => by
    simp only [List.foldl_cons] at h
    rcases foldl_mask es _ h with h1 | ⟨e', h2, h3⟩
    · split at h1
      · rename_i hb
        rw [Nat.testBit_or, Nat.testBit_or, Bool.or_eq_true, Bool.or_eq_true] at h1
        rcases h1 with (h1 | h1) | h1
        · exact .inl h1
        · rw [Nat.testBit_two_pow] at h1
          exact .inr ⟨e, by simp, hb, .inl (by simpa using h1)⟩
        · exact .inr ⟨e, by simp, hb, .inr h1⟩
      · exact .inl h1
    · exact .inr ⟨e', by simp [h2], h3⟩

theorem masks_path {ops : Array Oper} : ∀ (l : List Oper) (acc : List Nat), (∀ k o, l[k]? = some o → ops[acc.length + k]? = some o) → (∀ k i, k < acc.length → (acc.getD k 0).testBit i = true → Path ops k i) →
    ∀ k i, k < acc.length + l.length → ((masks l acc).getD k 0).testBit i = true → Path ops k i
  | [], acc, _, h2 => fun k i hk hb => h2 k i (by simpa using hk) hb
  | o :: l, acc, h1, h2 => by
    intro k i hk hb
    simp only [masks] at hb
    refine masks_path l _ (fun k' o' hk' => ?_) (fun k' i' hk' hb' => ?_) k i (by simp at hk ⊢; omega) hb
    · have := h1 (k' + 1) o' (by simpa using hk')
      simp only [List.length_append, List.length_singleton]
      rw [show acc.length + 1 + k' = acc.length + (k' + 1) by omega]
      exact this
    · simp only [List.length_append, List.length_singleton] at hk'
      by_cases hlt : k' < acc.length
      · refine h2 k' i' hlt ?_
        simp only [List.getD] at hb'
        rw [List.getElem?_append_left hlt] at hb'
        exact hb'
      · have hk2 : k' = acc.length := by omega
        subst hk2
        simp only [List.getD] at hb'
        rw [List.getElem?_append_right (Nat.le_refl _)] at hb'
        simp only [Nat.sub_self, List.getElem?_cons_zero, Option.getD_some] at hb'
        have ho := h1 0 o rfl
        simp only [Nat.add_zero] at ho
        rcases foldl_mask _ _ hb' with h3 | ⟨e, h3, h4, h5⟩
        · simp at h3
        · have he : e ∈ o.after := by simpa using h3
          rcases h5 with rfl | h5
          · exact .edge ho he h4
          · refine .more ho he h4 ?_
            by_cases hl : e.on < acc.length
            · exact h2 _ _ hl h5
            · simp [List.getD, List.getElem?_eq_none (Nat.le_of_not_lt hl)] at h5

def slotsOf (dl : List (Option Tmp)) (o : Oper) : List Tmp :=
  (o.op.operands.toList.filterMap fun | .tmp t => some t | _ => none) ++ (match o.guard with | some (j, _) => (match dl[j]? with | some (some d) => [d] | _ => []) | none => [])

/-- Two operations of which one must be ahead of the other one. -/
def clash (pureF : FuncId → Bool) (dl : List (Option Tmp)) (a b : Oper) : Bool :=
  (match a.dst with | some d => (slotsOf dl b).contains d || b.dst == some d | none => false) ||
  (match b.dst with | some d => (slotsOf dl a).contains d | none => false) ||
  (touchOf pureF a == .write && touchOf pureF b != .none) || (touchOf pureF b == .write && touchOf pureF a != .none)

/-- Edges lead back; operations that clash are in order. -/
def inOrder (pureF : FuncId → Bool) (l : List Oper) : Bool :=
  let m := masks l []
  let dl := l.map (·.dst)
  (l.zipIdx.all fun (o, j) => o.after.toList.all fun e => !Region.binds .any e || e.on < j) &&
  (l.zipIdx.all fun (b, j) => l.zipIdx.all fun (a, i) => !(decide (i < j) && clash pureF dl a b) || (m.getD j 0).testBit i)

section
variable {P : Program} {B : Base} {g g' : Gh} {blk : Nat → Option Nat} {E : Env} {L : Boxes} {σ σ' : Sh} {tmps : Array Value} {w w' : World} {esc : Nat → Bool} {pureF : FuncId → Bool} {base : Nat}

theorem look_congr {E E' : Env} {dl : List (Option Tmp)} {o : Oper} (h : ∀ s ∈ slotsOf dl o, E'.get s = E.get s) : ∀ x ∈ o.op.operands.toList, look E' x = look E x := by
  intro x hx
  cases x with
  | tmp t => exact h t (by simp only [slotsOf, List.mem_append, List.mem_filterMap]; exact .inl ⟨.tmp t, hx, rfl⟩)
  | _ => rfl

theorem awant_congr {E E' : Env} {dl : List (Option Tmp)} {o : Oper} (h : ∀ s ∈ slotsOf dl o, E'.get s = E.get s) : awant dl E' o = awant dl E o := by
  unfold awant
  split
  · rfl
  · rename_i j want hg
    split
    · rename_i d hd
      rw [h d (by simp [slotsOf, hg, hd])]
    · rfl

theorem acall_congr {E E' : Env} {dl : List (Option Tmp)} {o : Oper} (h : ∀ s ∈ slotsOf dl o, E'.get s = E.get s) : acall o E' = acall o E := by
  have hl := look_congr h
  unfold acall
  split
  · rename_i f args tys hx
    rw [hx] at hl
    simp only [Op.operands, Call.operands] at hl
    rw [hl f (by simp), looks_congr (ρ := look E) (ρ' := look E') (l := args.toList) (fun x hx => hl x (by simp; right; simpa using hx))]
  · rfl

theorem LetsOutFalse : True := trivial

/-- One operation, wherever the tape has it come up. -/
theorem fact_wp {ops : Array Oper} {o : Oper} {i : Nat} (ho : ops[i]? = some o) {r : Rec} (hf : Fact P esc pureF (ops.toList.map (·.dst)) (base + i) o E L σ r) {E' : Env} {L' : Boxes} {σ' : Sh}
    (hE : ∀ s ∈ slotsOf (ops.toList.map (·.dst)) o, E'.get s = E.get s) (hH : touchOf pureF o ≠ .none → L' = L ∧ σ' = σ) (hr : Rel B g blk E' L' σ' tmps w) (hn : Free B g σ' (base + i)) (hd : ∀ k, o.dst = some k → k < B.n)
    {K : Act → World → Prop} {Q : Exit → Act → World → Prop}
    (hK : ∀ g' blk' tm w' L'' σ'', (L'', σ'') = (if touchOf pureF o = .write then (r.L, r.σ) else (L', σ')) → Rel B g' blk' (putE o.dst r.v E') L'' σ'' tm w' →
      (∀ n, n ≠ base + i → Free B g σ' n → Free B g' σ'' n) → K ⟨tm, []⟩ w') : wpOp P ops Q i K ⟨tmps, []⟩ w := by
  unfold wpOp
  rw [ho]
  simp only
  cases hf with
  | skip hw =>
    rw [← awant_congr hE] at hw
    rw [if_neg (by rw [awant_ok hr hw]; simp), put_defers]
    refine hK g blk _ w _ _ ?_ (hr.putE_skip o.dst hd) fun n _ h => h
    split
    · rename_i ht
      obtain ⟨rfl, rfl⟩ := hH (by rw [ht]; simp)
      rfl
    · rfl
  | step hw hdr hs =>
    rw [← awant_congr hE] at hw
    rw [if_pos (awant_ok hr hw)]
    left
    rw [← astep_congr hdr (look_congr hE)] at hs
    cases ht : touchOf pureF o with
    | none =>
      obtain ⟨_, hs'⟩ := astep_none (L' := L') (σ' := σ') ht hs
      refine step_wp hr hn hd hs' fun g' blk' tm w' h1 h2 => hK g' blk' tm w' _ _ (by rw [ht]; rfl) h1 fun n hne hfn => hfn.moves h2 hne
    | read =>
      obtain ⟨rfl, rfl⟩ := hH (by rw [ht]; simp)
      obtain ⟨rfl, rfl⟩ := astep_read ht hs
      refine step_wp hr hn hd hs fun g' blk' tm w' h1 h2 => hK g' blk' tm w' _ _ (by rw [ht]; rfl) h1 fun n hne hfn => hfn.moves h2 hne
    | write =>
      obtain ⟨rfl, rfl⟩ := hH (by rw [ht]; simp)
      refine step_wp hr hn hd hs fun g' blk' tm w' h1 h2 => hK g' blk' tm w' _ _ (by rw [ht]; rfl) h1 fun n hne hfn => hfn.moves h2 hne
  | pcall hw ht hc hp =>
    rw [← awant_congr hE] at hw
    rw [← acall_congr hE] at hc
    rw [if_pos (awant_ok hr hw)]
    left
    refine call_wp hr hd hc (hp σ') ?_
    rintro r' σ'' g' tm w' ⟨rfl, rfl⟩ h1 h2
    exact hK g' blk tm w' _ _ (by rw [ht]; rfl) h1 fun n hne hfn => hfn.post h2
  | acall hw ht hc hp =>
    rw [← awant_congr hE] at hw
    rw [← acall_congr hE] at hc
    rw [if_pos (awant_ok hr hw)]
    left
    obtain ⟨rfl, rfl⟩ := hH (by rw [ht]; simp)
    refine call_wp hr hd hc hp ?_
    rintro r' σ'' g' tm w' ⟨rfl, rfl⟩ h1 h2
    exact hK g' blk tm w' _ _ (by rw [ht]; rfl) h1 fun n hne hfn => hfn.post h2

theorem path_closed {ops : Array Oper} {S : Nat → Bool} (hS : ∀ j o e, S j = true → ops[j]? = some o → e ∈ o.after → Region.binds .any e = true → S e.on = true) {j i : Nat} (h : Path ops j i) : S j = true → S i = true := by
  induction h with
  | edge ho he hb => exact fun hj => hS _ _ _ hj ho he hb
  | more ho he hb _ ih => exact fun hj => ih (hS _ _ _ hj ho he hb)

def inS (listed : Array Bool) : Nat → Bool := fun j => listed.getD j false

theorem inOrder_spec {l : List Oper} (h : inOrder pureF l = true) :
    (∀ (j : Nat) (o : Oper) (e : Edge), l[j]? = some o → e ∈ o.after → Region.binds .any e = true → e.on < j) ∧
    ∀ (i j : Nat) (a b : Oper), l[i]? = some a → l[j]? = some b → i < j → clash pureF (l.map (·.dst)) a b = true → Path l.toArray j i := by
  unfold inOrder at h
  simp only [Bool.and_eq_true, List.all_eq_true] at h
  obtain ⟨h1, h2⟩ := h
  have hz : ∀ (j : Nat) (o : Oper), l[j]? = some o → (o, j) ∈ l.zipIdx := fun j o ho => by
    rw [List.mem_zipIdx_iff_getElem?]
    exact ho
  refine ⟨fun j o e ho he hb => ?_, fun i j a b ha hb hij hc => ?_⟩
  · have := h1 _ (hz j o ho) e (by simpa using he)
    simpa [hb] using this
  · have := h2 _ (hz j b hb) _ (hz i a ha)
    simp only [hij, hc, decide_true, Bool.and_self, Bool.not_true, Bool.false_or] at this
    refine masks_path (ops := l.toArray) l [] (fun k o hk => by simpa using hk) (fun k i hk => by simp at hk) j i ?_ this
    have := (List.getElem?_eq_some_iff.1 hb).1
    simpa using this

/-- Whatever order the tape picks. -/
theorem any_order {l : List Oper} (hord : inOrder pureF l = true) (hd : ∀ o ∈ l, ∀ k, o.dst = some k → k < B.n) {E : Env} {L : Boxes} {σ : Sh} {tr : List Rec} (hp : Plan P esc pureF (l.map (·.dst)) base l 0 E L σ tr)
    {Q : Exit → Act → World → Prop} (hQ : ∀ g blk E' tm w, (∀ s, E'.get s = (selE (fun _ => true) l tr 0 E).get s) → Rel B g blk E' (selH pureF (fun _ => true) l tr 0 (L, σ)).1 (selH pureF (fun _ => true) l tr 0 (L, σ)).2 tm w → Q .normal ⟨tm, []⟩ w) :
    ∀ (fuel : Nat) (listed : Array Bool) (g : Gh) (blk : Nat → Option Nat) (E' : Env) (tmps : Array Value) (w : World), listed.size = l.length → ((List.range l.length).countP fun j => !inS listed j) = fuel →
      (∀ j o e, inS listed j = true → l.toArray[j]? = some o → e ∈ o.after → Region.binds .any e = true → inS listed e.on = true) →
      (∀ s, E'.get s = (selE (inS listed) l tr 0 E).get s) → Rel B g blk E' (selH pureF (inS listed) l tr 0 (L, σ)).1 (selH pureF (inS listed) l tr 0 (L, σ)).2 tmps w →
      (∀ j, j < l.length → inS listed j = false → Free B g (selH pureF (inS listed) l tr 0 (L, σ)).2 (base + j)) → wpAny P .any l.toArray Q fuel listed ⟨tmps, []⟩ w := by
  obtain ⟨ord1, ord2⟩ := inOrder_spec hord
  have hready : ∀ (listed : Array Bool), listed.size = l.length → ∀ i, i ∈ Region.ready .any l.toArray listed ↔ i < l.length ∧ inS listed i = false ∧ ∀ o e, l[i]? = some o → e ∈ o.after → Region.binds .any e = true → inS listed e.on = true := by
    intro listed hsz i
    simp only [Region.ready, List.mem_filter, List.mem_range, List.size_toArray, Bool.and_eq_true]
    constructor
    · rintro ⟨h1, h2, h3⟩
      have hi : i < listed.size := by omega
      refine ⟨h1, by simpa [inS, Array.getD, hi] using h2, fun o e ho he hb => ?_⟩
      simp only [List.getElem?_toArray, ho, Option.map_some, Option.getD_some, Array.all_eq_true'] at h3
      have := h3 e he
      simpa [hb, inS] using this
    · rintro ⟨h1, h2, h3⟩
      have hi : i < listed.size := by omega
      refine ⟨h1, by simpa [inS, Array.getD, hi] using h2, ?_⟩
      have ho : l[i]? = some l[i] := List.getElem?_eq_getElem h1
      simp only [List.getElem?_toArray, ho, Option.map_some, Option.getD_some, Array.all_eq_true']
      intro e he
      by_cases hb : Region.binds .any e = true
      · have := h3 _ e ho he hb
        simpa [inS, hb] using this
      · simp [hb]
  have hall : ∀ (listed : Array Bool), listed.size = l.length → Region.ready .any l.toArray listed = [] → ∀ j, j < l.length → inS listed j = true := by
    intro listed hsz hnil j
    induction j using Nat.strongRecOn with
    | _ j ih =>
      intro hj
      cases hs : inS listed j with
      | true => rfl
      | false =>
        exfalso
        have : j ∈ Region.ready .any l.toArray listed := (hready listed hsz j).2 ⟨hj, hs, fun o e ho he hb => ih e.on (ord1 j o e ho he hb) (Nat.lt_trans (ord1 j o e ho he hb) hj)⟩
        rw [hnil] at this
        simp at this
  have hend : ∀ (listed : Array Bool) (g : Gh) (blk : Nat → Option Nat) (E' : Env) (tmps : Array Value) (w : World), (∀ j, j < l.length → inS listed j = true) → (∀ s, E'.get s = (selE (inS listed) l tr 0 E).get s) →
      Rel B g blk E' (selH pureF (inS listed) l tr 0 (L, σ)).1 (selH pureF (inS listed) l tr 0 (L, σ)).2 tmps w → Q .normal ⟨tmps, []⟩ w := by
    intro listed g blk E' tmps w ha he hr
    have e1 : ∀ s, (selE (inS listed) l tr 0 E).get s = (selE (fun _ => true) l tr 0 E).get s := fun s => selE_agree rfl fun k o hk _ => by
      have := ha k (List.getElem?_eq_some_iff.1 hk).1
      simpa using this
    have e2 : selH pureF (inS listed) l tr 0 (L, σ) = selH pureF (fun _ => true) l tr 0 (L, σ) := selH_agree fun k o hk _ => by
      have := ha k (List.getElem?_eq_some_iff.1 hk).1
      simpa using this
    rw [e2] at hr
    exact hQ g blk E' tmps w (fun s => (he s).trans (e1 s)) hr
  intro fuel
  induction fuel with
  | zero =>
    intro listed g blk E' tmps w hsz hcount hclosed he hr hfree
    have ha : ∀ j, j < l.length → inS listed j = true := fun j hj => by
      have := List.countP_eq_zero.1 hcount j (List.mem_range.2 hj)
      simpa using this
    refine ⟨?_, hend listed g blk E' tmps w ha he hr⟩
    rw [List.eq_nil_iff_forall_not_mem]
    intro i hi
    obtain ⟨h1, h2, _⟩ := (hready listed hsz i).1 hi
    rw [ha i h1] at h2
    cases h2
  | succ fuel ih =>
    intro listed g blk E' tmps w hsz hcount hclosed he hr hfree
    refine ⟨fun hnil => hend listed g blk E' tmps w (hall listed hsz hnil) he hr, fun i hi => ?_⟩
    obtain ⟨hil, hnot, hrdy⟩ := (hready listed hsz i).1 hi
    have ho : l[i]? = some l[i] := List.getElem?_eq_getElem hil
    obtain ⟨r, hr1, hfact⟩ := hp.at_ i _ ho
    simp only [Nat.zero_add] at hfact
    -- what clashes with it and comes ahead in the text is done; what comes behind is not
    have hdone : ∀ k o', l[k]? = some o' → k < i → clash pureF (l.map (·.dst)) o' l[i] = true → inS listed k = true := by
      intro k o' hk hlt hc
      have hpath := ord2 k i o' _ hk ho hlt hc
      have : ∀ {j m : Nat}, Path l.toArray j m → j = i → inS listed m = true := by
        intro j m hpm
        induction hpm with
        | edge ho' he' hb' =>
          rintro rfl
          simp only [List.getElem?_toArray] at ho'
          exact hrdy _ _ ho' he' hb'
        | more ho' he' hb' hpm' _ =>
          rintro rfl
          simp only [List.getElem?_toArray] at ho'
          exact path_closed hclosed hpm' (hrdy _ _ ho' he' hb')
      exact this hpath rfl
    have hlater : ∀ k o', l[k]? = some o' → i < k → clash pureF (l.map (·.dst)) l[i] o' = true → inS listed k = false := by
      intro k o' hk hlt hc
      cases hs : inS listed k with
      | false => rfl
      | true =>
        have := path_closed hclosed (ord2 i k _ o' ho hk hlt hc) hs
        rw [this] at hnot
        cases hnot
    have hE : ∀ s ∈ slotsOf (l.map (·.dst)) l[i], E'.get s = (selE (fun j => decide (j < i)) l tr 0 E).get s := by
      intro s hs
      rw [he s]
      refine selE_agree rfl fun k o' hk hdst => ?_
      simp only [Nat.zero_add]
      rcases Nat.lt_trichotomy k i with hlt | rfl | hgt
      · rw [hdone k o' hk hlt (by simp [clash, hdst, hs])]
        simpa using hlt
      · rw [hnot]; simp
      · rw [hlater k o' hk hgt (by simp [clash, hdst, hs])]
        simp; omega
    have hH : touchOf pureF l[i] ≠ .none → selH pureF (inS listed) l tr 0 (L, σ) = selH pureF (fun j => decide (j < i)) l tr 0 (L, σ) := by
      intro ht
      refine selH_agree fun k o' hk hw => ?_
      simp only [Nat.zero_add]
      rcases Nat.lt_trichotomy k i with hlt | rfl | hgt
      · rw [hdone k o' hk hlt (by simp [clash, hw, ht])]
        simpa using hlt
      · rw [hnot]; simp
      · rw [hlater k o' hk hgt (by simp [clash, hw, ht])]
        simp; omega
    have hSadd : inS (listed.setIfInBounds i true) = addS (inS listed) i := by
      funext j
      simp only [inS, addS]
      by_cases hj : j = i
      · subst hj
        have : j < listed.size := by omega
        simp [Array.getD_eq_getD_getElem?, this]
      · have h1 : (j == i) = false := by simpa using hj
        simp [h1, Array.getD_eq_getD_getElem?, Array.getElem?_setIfInBounds_ne (fun e => hj e.symm)]
    refine fact_wp (ops := l.toArray) (by simpa using ho) hfact (E' := E') hE (fun ht => by rw [hH ht]; exact ⟨rfl, rfl⟩) hr (hfree i hil hnot) (hd _ (List.getElem_mem hil)) ?_
    intro g' blk' tm w' L'' σ'' hH2 hr2 hfree2
    have hsel : selH pureF (addS (inS listed) i) l tr 0 (L, σ) = (L'', σ'') := by
      have := selH_add (pureF := pureF) (S := inS listed) (l := l) (tr := tr) (i := 0) (k0 := i) (H := (L, σ)) ho hr1 (by simpa using hnot) (fun k o' hk hgt hw1 hw2 => by
        simp only [Nat.zero_add]
        exact hlater k o' hk hgt (by simp [clash, hw1, hw2]))
      simp only [Nat.zero_add] at this
      rw [this, hH2]
    refine ih (listed.setIfInBounds i true) g' blk' (putE l[i].dst r.v E') tm w' (by simpa using hsz) ?_ ?_ ?_ ?_ ?_
    · rw [hSadd]
      have hc : ∀ n, i < n → (List.range n).countP (fun j => !inS listed j) = (List.range n).countP (fun j => !addS (inS listed) i j) + 1 := by
        intro n
        induction n with
        | zero => intro h; omega
        | succ n ihn =>
          intro hlt
          rw [List.range_succ, List.countP_append, List.countP_append]
          by_cases hin : i = n
          · subst hin
            have e1 : (List.range i).countP (fun j => !addS (inS listed) i j) = (List.range i).countP (fun j => !inS listed j) := List.countP_congr fun j hj => by
              have : (j == i) = false := by simp at hj ⊢; omega
              simp [addS, this]
            rw [e1]
            simp [hnot, addS]
          · have e2 := ihn (by omega)
            have : (n == i) = false := by simp; omega
            rw [e2]
            simp [addS, this]
            omega
      have := hc l.length hil
      omega
    · intro j o e hj hoj hej hbj
      rw [hSadd] at hj ⊢
      simp only [addS, Bool.or_eq_true, beq_iff_eq] at hj ⊢
      right
      rcases hj with rfl | hj
      · exact hrdy o e (by simpa using hoj) hej hbj
      · exact hclosed j o e hj hoj hej hbj
    · intro s
      rw [hSadd]
      have := selE_add (S := inS listed) (s := s) (l := l) (tr := tr) (i := 0) (k0 := i) (E := E) ho hr1 (by simpa using hnot) (fun k o' x hk hgt hsk hdx hdx' => by
        have := hlater k o' hk hgt (by simp [clash, hdx, hdx'])
        simp only [Nat.zero_add] at hsk
        rw [this] at hsk
        cases hsk)
      simp only [Nat.zero_add] at this
      rw [this, putE_get, putE_get, he s]
    · rw [hSadd, hsel]
      exact hr2
    · intro j hj hsj
      rw [hSadd] at hsj ⊢
      rw [hsel]
      simp only [addS, Bool.or_eq_false_iff, beq_eq_false_iff_ne] at hsj
      exact hfree2 (base + j) (by omega) (hfree j hj hsj.2)

/-- A region whose order is drawn: the order of the text serves. -/
theorem awp_region_drawn {id : Nat} {ops : List Oper} {esc : Nat → Bool} (pureF : FuncId → Bool) {Q : Exit → Env → Boxes → Sh → Prop} (hm : P.follows .mixedOrders = true) (hord : inOrder pureF ops = true)
    (hd : (ops.all fun o => o.dst.all fun k => decide (k < B.n)) = true) (hQE : ∀ E E' L σ, (∀ s, E'.get s = E.get s) → Q .normal E L σ → Q .normal E' L σ)
    (h : ∀ base, B.g.nt ≤ base → (∀ t, t ∈ σ.live → t < base) → TrD P esc pureF (ops.map (·.dst)) base (Q .normal) ops 0 E L σ) : awp P B (.region id ops.toArray true) Q E L σ := by
  intro g blk tmps w hr
  refine wp_region_any hm ?_
  obtain ⟨h1, h2⟩ := hr.drew.reserve ops.length hr.sh.dom
  obtain ⟨tr, hp, hK⟩ := trd_plan (h g.nt hr.ext.nt hr.sh.live)
  have hd' : ∀ o ∈ ops, ∀ k, o.dst = some k → k < B.n := fun o ho k hk => by
    have := List.all_eq_true.1 hd o ho
    simpa [hk] using this
  have hin : inS (Array.replicate ops.length false) = fun _ => false := by
    funext j
    simp only [inS, Array.getD_eq_getD_getElem?, Array.getElem?_replicate]
    split <;> rfl
  have := any_order (P := P) (B := B) (base := g.nt) hord hd' hp (Q := Lift B Q) (fun g blk E' tm w he hr' => ⟨rfl, g, blk, E', _, _, hr', hQE _ _ _ _ he hK⟩) ops.length (Array.replicate ops.length false) _ blk E tmps w.drew
    (by simp) (by rw [hin]; simp) (fun j o e hj => by rw [hin] at hj; cases hj) (fun s => by rw [hin, selE_none (fun _ _ => rfl)]) (by rw [hin, selH_none (fun _ _ => rfl)]; exact h1) (fun j hj _ => by rw [hin, selH_none (fun _ _ => rfl)]; exact h2 j hj)
  simpa using this

end
end Go.Am
namespace Go.Am
open Go

noncomputable def trunD (P : Program) (esc : Nat → Bool) (dl : List (Option Tmp)) (base : Nat) : List Oper → Nat → Env → Boxes → Sh → RS
  | [], i, E, L, σ => ⟨[], i, E, L, σ⟩
  | o :: rest, i, E, L, σ =>
    match awant dl E o with
    | some false => trunD P esc dl base rest (i + 1) (putE o.dst none E) L σ
    | some true => if drawOk esc o then (match astep P esc (base + i) o E L σ with
      | some (v, L', σ') => trunD P esc dl base rest (i + 1) (putE o.dst v E) L' σ'
      | none => ⟨o :: rest, i, E, L, σ⟩) else ⟨o :: rest, i, E, L, σ⟩
    | none => ⟨o :: rest, i, E, L, σ⟩

def TrDS (P : Program) (esc : Nat → Bool) (pureF : FuncId → Bool) (dl : List (Option Tmp)) (base : Nat) (K : Env → Boxes → Sh → Prop) (s : RS) : Prop := TrD P esc pureF dl base K s.l s.i s.E s.L s.σ

section
variable {P : Program} {B : Base} {esc : Nat → Bool} {pureF : FuncId → Bool} {dl : List (Option Tmp)} {base : Nat} {K : Env → Boxes → Sh → Prop} {E : Env} {L : Boxes} {σ : Sh} {Q : Exit → Env → Boxes → Sh → Prop}

theorem trd_run : ∀ {l : List Oper} {i : Nat} {E : Env} {L : Boxes} {σ : Sh}, TrDS P esc pureF dl base K (trunD P esc dl base l i E L σ) → TrD P esc pureF dl base K l i E L σ
  | [], i, E, L, σ, h => h
  | o :: rest, i, E, L, σ, h => by
    unfold trunD at h
    split at h
    · rename_i hw
      exact ⟨_, .skip hw, trd_run h⟩
    · rename_i hw
      split at h
      · rename_i hd
        split at h
        · rename_i v L' σ' hs
          exact ⟨_, .step hw hd hs, trd_run h⟩
        · exact h
      · exact h
    · exact h

theorem trd_nil {i : Nat} (h : K E L σ) : TrDS P esc pureF dl base K ⟨[], i, E, L, σ⟩ := h

theorem trd_pcall {o : Oper} {rest : List Oper} {i : Nat} {f : FuncId} {args : List AV} {r : AV} (hp : PCalls P f args r) (ht : touchOf pureF o = .none) (hw : awant dl E o = some true) (hc : acall o E = some (f, args))
    (h : TrDS P esc pureF dl base K (trunD P esc dl base rest (i + 1) (putE o.dst (some r) E) L σ)) : TrDS P esc pureF dl base K ⟨o :: rest, i, E, L, σ⟩ :=
  ⟨_, .pcall hw ht hc hp, trd_run h⟩

theorem trd_acall {o : Oper} {rest : List Oper} {i : Nat} {f : FuncId} {args : List AV} {r : AV} {σ₁ : Sh} (hp : ACalls P f args σ fun r' σ' => r' = r ∧ σ' = σ₁) (ht : touchOf pureF o = .write) (hw : awant dl E o = some true) (hc : acall o E = some (f, args))
    (h : TrDS P esc pureF dl base K (trunD P esc dl base rest (i + 1) (putE o.dst (some r) E) L σ₁)) : TrDS P esc pureF dl base K ⟨o :: rest, i, E, L, σ⟩ :=
  ⟨_, .acall hw ht hc hp, trd_run h⟩

theorem awp_weaken {c : Code} {E' : Env} {L' : Boxes} (h : awp P B c Q E' L' σ) (hE : ∀ s v, E'.get s = some v → E.get s = some v) (hL : ∀ k cs, L'.get k = some cs → L.get k = some cs) : awp P B c Q E L σ :=
  fun g blk tmps w hr => h g blk tmps w (hr.weaken hE hL)

/-- An ending that looks at slots alone. -/
def QI (Q : Exit → Env → Boxes → Sh → Prop) : Prop := ∀ e E E' L σ, (∀ s, E'.get s = E.get s) → Q e E L σ → Q e E' L σ
def KI (K : Env → Boxes → Sh → Prop) : Prop := ∀ E E' L σ, (∀ s, E'.get s = E.get s) → K E L σ → K E' L σ

theorem KI_awp {c : Code} : KI (awp P B c Q) := fun _ _ _ _ he h => awp_weaken h (fun s v hv => by rw [he s]; exact hv) (fun _ _ h => h)
theorem QI_then (hK : KI K) (hQ : QI Q) : QI (Then K Q) := fun e E E' L σ he h => by
  cases e <;> first | exact hK _ _ _ _ he h | exact hQ _ _ _ _ _ he h
theorem QI_block {id : Nat} (hQ : QI Q) : QI (InBlock id Q) := fun e E E' L σ he h => by
  cases e with
  | exit id' =>
    simp only [InBlock] at h ⊢
    split
    · rename_i h1; rw [if_pos h1] at h; exact hQ _ _ _ _ _ he h
    · rename_i h1; rw [if_neg h1] at h; exact hQ _ _ _ _ _ he h
  | _ => exact hQ _ _ _ _ _ he h

/-- A region whose order is drawn, and what follows. -/
theorem awp_drawn_k {id : Nat} {ops : List Oper} {y : Code} (pureF : FuncId → Bool) (esc : Nat → Bool) (hm : P.follows .mixedOrders = true) (hord : inOrder pureF ops = true)
    (hd : (ops.all fun o => o.dst.all fun k => decide (k < B.n)) = true)
    (h : ∀ K : Env → Boxes → Sh → Prop, (∀ E L σ, awp P B y Q E L σ → K E L σ) → ∀ base, B.g.nt ≤ base → (∀ t, t ∈ σ.live → t < base) → TrD P esc pureF (ops.map (·.dst)) base K ops 0 E L σ) : awp P B (.seq (.region id ops.toArray true) y) Q E L σ := by
  refine awp_seq (awp_region_drawn (esc := esc) pureF hm hord hd (fun E E' L σ he hq => ?_) (h _ fun _ _ _ h => h))
  exact KI_awp _ _ _ _ he hq

theorem awp_region_k {id : Nat} {ops : List Oper} {y : Code} (esc : Nat → Bool) (hd : (ops.all fun o => o.dst.all fun k => decide (k < B.n)) = true)
    (h : ∀ K : Env → Boxes → Sh → Prop, (∀ E L σ, awp P B y Q E L σ → K E L σ) → ∀ base, B.g.nt ≤ base → (∀ t, t ∈ σ.live → t < base) → Tr P esc (ops.map (·.dst)) base K ops 0 E L σ) : awp P B (.seq (.region id ops.toArray false) y) Q E L σ :=
  awp_seq (awp_region hd (h _ fun _ _ _ h => h))

def NoGoto (Q : Exit → Env → Boxes → Sh → Prop) : Exit → Env → Boxes → Sh → Prop
  | .goto _, _, _, _ => False
  | e, E, L, σ => Q e E L σ

theorem awp_scope {c : Code} (h : awp P B c (NoGoto Q) E L σ) : awp P B (.scope c) Q E L σ := by
  intro g blk tmps w hr
  refine wp_scope_straight (wp_mono (h g blk tmps w hr) ?_)
  rintro e a w' ⟨hd, g', blk', E', L', σ', hr', q⟩
  cases e <;> first | exact q.elim | exact ⟨hd, g', blk', E', L', σ', hr', q⟩
theorem QI_scope (hQ : QI Q) : QI (NoGoto Q) := fun e E E' L σ he h => by
  cases e <;> first | exact h | exact hQ _ _ _ _ _ he h

/-- What is asked of slots alone. -/
def Env.sub (E₀ E : Env) : Prop := ∀ s v, E₀.get s = some v → E.get s = some v
theorem Env.sub_nil (E : Env) : Env.sub [] E := fun s v h => by simp [Env.get] at h
theorem Env.sub_cons {k : Nat} {v : AV} {E₀ E : Env} (h : E.get k = some v) (ht : Env.sub E₀ E) : Env.sub ((k, v) :: E₀) E := fun s u hu => by
  simp only [Env.get] at hu
  split at hu
  · rename_i hs; cases hu; rw [hs]; exact h
  · exact ht s u hu
def Boxes.sub (L₀ L : Boxes) : Prop := ∀ k cs, L₀.get k = some cs → L.get k = some cs
theorem Boxes.sub_nil (L : Boxes) : Boxes.sub [] L := fun s v h => by simp [Boxes.get] at h
theorem Boxes.sub_cons {k : Nat} {v : List AV} {L₀ L : Boxes} (h : L.get k = some v) (ht : Boxes.sub L₀ L) : Boxes.sub ((k, v) :: L₀) L := fun s u hu => by
  simp only [Boxes.get] at hu
  split at hu
  · rename_i hs; cases hu; rw [hs]; exact h
  · exact ht s u hu

/-- A loop: at its head a state x of the loop's own, of which alone the slots, the boxes and what is shared are known. -/
theorem awp_loop_of {α : Type} {c : Code} (I : α → Prop) (en : α → Env) (bx : α → Boxes) (sh : α → Sh) (μ : α → Nat) (x₀ : α) (h0 : I x₀) (hE : Env.sub (en x₀) E) (hL : Boxes.sub (bx x₀) L) (hσ : σ = sh x₀)
    (round : ∀ x, I x → awp P B c (Then (fun E' L' σ' => ∃ y, I y ∧ μ y < μ x ∧ Env.sub (en y) E' ∧ Boxes.sub (bx y) L' ∧ σ' = sh y) Q) (en x) (bx x) (sh x)) : awp P B (.loop c) Q E L σ := by
  intro g blk tmps w hr b k cs
  have key : ∀ n x, μ x = n → I x → ∀ g blk tmps w, Rel B g blk (en x) (bx x) (sh x) tmps w →
      ∃ e a' w', Lift B Q e a' w' ∧ Arrives P (lone (b.at ⟨tmps, []⟩ (.code c :: .inLoop c :: k)) cs w) b k cs e a' w' := by
    intro n
    induction n using Nat.strongRecOn with
    | _ n ih =>
      intro x hn hI g blk tmps w hr
      obtain ⟨e, a₁, w₁, ⟨hd, g', blk', E', L', σ', hr', q⟩, harr⟩ := round x hI g blk tmps w hr b (.inLoop c :: k) cs
      cases e with
      | normal =>
        obtain ⟨y, hy, hlt, hE', hL', hσ'⟩ := q
        obtain ⟨tm, df⟩ := a₁
        obtain rfl : df = [] := hd
        subst hσ'
        obtain ⟨e₂, a₂, w₂, hq₂, harr₂⟩ := ih (μ y) (hn ▸ hlt) y rfl hy g' blk' tm w₁ (hr'.weaken hE' hL')
        exact ⟨e₂, a₂, w₂, hq₂, .of_steps (Steps.trans harr (.one step_inLoop)) harr₂⟩
      | exit id => exact ⟨_, a₁, w₁, ⟨hd, g', blk', E', L', σ', hr', q⟩, .pass (x := .inLoop c) rfl (fun _ _ => .inl (by simp)) harr⟩
      | goto l => exact ⟨_, a₁, w₁, ⟨hd, g', blk', E', L', σ', hr', q⟩, .pass (x := .inLoop c) rfl (fun _ _ => .inl (by simp)) harr⟩
      | ret => exact ⟨_, a₁, w₁, ⟨hd, g', blk', E', L', σ', hr', q⟩, .pass (x := .inLoop c) rfl (fun _ _ => .inl (by simp)) harr⟩
      | panic ch => exact ⟨_, a₁, w₁, ⟨hd, g', blk', E', L', σ', hr', q⟩, .pass (x := .inLoop c) rfl (fun _ _ => .inl (by simp)) harr⟩
      | outgrown => exact ⟨_, a₁, w₁, ⟨hd, g', blk', E', L', σ', hr', q⟩, .pass (x := .inLoop c) rfl (fun _ _ => .inl (by simp)) harr⟩
  subst hσ
  obtain ⟨e, a', w', hq, harr⟩ := key _ x₀ rfl h0 g blk tmps w (hr.weaken hE hL)
  exact ⟨e, a', w', hq, .of_steps (.one step_loop) harr⟩

theorem QI_loop {α : Type} {I : α → Prop} {en : α → Env} {bx : α → Boxes} {sh : α → Sh} {μ : α → Nat} {x : α} (hQ : QI Q) :
    QI (Then (fun E' L' σ' => ∃ y, I y ∧ μ y < μ x ∧ Env.sub (en y) E' ∧ Boxes.sub (bx y) L' ∧ σ' = sh y) Q) :=
  QI_then (fun E E' L σ he ⟨y, h1, h2, h3, h4, h5⟩ => ⟨y, h1, h2, fun s v hv => by rw [he s]; exact h3 s v hv, h4, h5⟩) hQ

end
end Go.Am
