/- What functions of this program compute, a part: see the main text. No conditions. -/
import Derived.Test.YtanpeaakmdffcaaGreatW03
import Derived.Lib.Strings
set_option linter.all false
set_option maxRecDepth 100000
namespace Go.Am
open Go

section
variable {P : Program} {B : Base} {g : Gh} {blk : Nat → Option Nat} {E : Env} {L : Boxes} {σ : Sh} {tmps : Array Value} {w : World}

theorem aunop_ok {op : UnOp} {a v : AV} {x : Value} (ha : SR g blk a x) (h : aunop op a = some v) : ∃ u, (Op.unary op x).run P w = .ok u w ∧ VR g v u := by
  cases a <;> simp only [aunop] at h <;> first | (cases h; done) | skip
  all_goals (cases op <;> simp only at h <;> first | (cases h; done) | skip)
  all_goals (cases ha; cases h)
  · exact ⟨_, by simp [Op.unary], .bool _⟩
  · exact ⟨_, by simp [Op.unary, Op.intArith], .int _ _⟩
  · exact ⟨_, by simp [Op.unary, intBits_xor], .int _ _⟩

theorem afieldAddr_ok {t : TypeId} {f : Nat} {a v : AV} {x : Value} (ha : SR g blk a x) (h : afieldAddr P t f a = some v) : ∃ u, (Instr.fieldAt t x f).run P w = .ok u w ∧ SR g blk v u := by
  unfold afieldAddr at h
  split at h
  · rename_i o ft hf
    split at h
    · cases h
    rename_i hz
    obtain ⟨n, hn⟩ : ∃ n, tsize P ft = some n := by cases hh : tsize P ft <;> simp [hh] at hz ⊢
    have hn0 : n ≠ 0 := by simpa [hn] using hz
    obtain ⟨fs, y, h1, h2, h3, h4⟩ := tfield_und hf
    have hrun : ∀ b off, (Instr.fieldAt t (.pointer (some ⟨b, off, none⟩)) f).run P w = .ok (.pointer (some ⟨b, off + o, none⟩)) w := fun b off => by
      simp [Instr.fieldAt, run_underlying h1, h2, Instr.sureAddr, fieldPlace, h3, h4, tsize_run hn, hn0, Addr.add_lit]
    cases a <;> simp only at h <;> first | (cases h; done) | skip
    · split at h
      · rename_i hle
        cases h
        cases ha with
        | eref cs b off c hc hle2 hv =>
          refine ⟨_, hrun b off, ?_⟩
          refine VR.eref _ b _ c hc (by simp; omega) fun i hi => ?_
          have := hv (o + i) (by simp at hi; omega)
          rw [← Nat.add_assoc] at this
          simpa [List.getD] using this
      · cases h
    · cases h
      obtain ⟨b, hb, rfl⟩ := ha
      exact ⟨_, hrun b _, b, hb, rfl⟩
    · cases h
      cases ha with
      | ptr _ _ b hb => exact ⟨_, hrun b _, .ptr _ _ b hb⟩
  · cases h
theorem apart_ok {t : TypeId} {cs : List AV} {off : Nat} {v : AV} {vals : Array Value} (hl : vals.size = cs.length) (hcs : ∀ i, i < cs.length → VR g (cs.getD i default) (vals.getD i undef)) (h : apart P t cs off = some v) :
    ∃ u, (part t vals off).run P w = .ok u w ∧ VR g v u := by
  unfold apart at h
  split at h
  · rename_i n hn ha
    split at h
    · rename_i hle
      cases h
      refine ⟨_, by simp [part, tagg_run ha, tsize_run hn]; rfl, .agg _ _ (by simp; omega) fun i hi => ?_⟩
      have hi' : i < n := by simp at hi; omega
      rw [extract_getD _ _ _ _ hi']
      have := hcs (off + i) (by omega)
      rw [show ((cs.drop off).take n).getD i default = cs.getD (off + i) default by simp [List.getD, hi']]
      exact this
    · cases h
  · rename_i n hn ha
    have ho : off < cs.length := (List.getElem?_eq_some_iff.1 h).1
    refine ⟨vals.getD off undef, ?_, by have := hcs off ho; simpa [List.getD, h] using this⟩
    have : off < vals.size := by omega
    simp [part, tagg_run ha, this]
  · cases h

theorem afield_ok {t : TypeId} {f : Nat} {a v : AV} {x : Value} (ha : SR g blk a x) (h : afield P t f a = some v) : ∃ u, (Instr.field t x f).run P w = .ok u w ∧ VR g v u := by
  unfold afield at h
  split at h
  · rename_i _ _ o ft cs hf
    obtain ⟨fs, y, h1, h2, h3, h4⟩ := tfield_und hf
    cases ha with
    | agg _ vs hl hv =>
      obtain ⟨u, e1, e2⟩ := apart_ok (P := P) (w := w) hl hv h
      refine ⟨u, ?_, e2⟩
      simp [Instr.field, run_underlying h1, h2, asAgg, h3, h4, e1]
  · cases h

theorem aindexAddr_ok {t : TypeId} {a i v : AV} {x y : Value} (ha : SR g blk a x) (hi : SR g blk i y) (h : aindexAddr P t a i = some v) : ∃ u, (Instr.indexAt t x y).run P w = .ok u w ∧ SR g blk v u := by
  unfold aindexAddr at h
  split at h
  · rename_i k n
    split at h
    · rename_i h0
      cases hi
      split at h
      · rename_i es tag
        split at h
        · rename_i e he
          split at h
          · rename_i e0 m hx hm
            split at h
            · rename_i hlen
              cases h
              have hlt : n.toNat < es.length := (List.getElem?_eq_some_iff.1 hx).1
              cases ha with
              | nils => simp at hlt
              | list sz _ _ b off cap c hc hle hcap hmax htag hsz hv =>
                have hs : sz = m := by
                  have := hsz n.toNat hlt
                  simp [List.getD, hx] at this
                  omega
                subst hs
                have hn : n < (es.length : Int) := by omega
                refine ⟨.pointer (some ⟨b, off + n.toNat * sz, none⟩), ?_, ?_⟩
                · simp [Instr.indexAt, asIntOf, run_underlying (telem_und he), h0, hn, tsize_run hm, Addr.add_lit]
                · have hb : off + n.toNat * sz + sz ≤ c.length := by
                    have : (n.toNat + 1) * sz ≤ es.length * sz := Nat.mul_le_mul_right _ hlt
                    rw [Nat.add_mul, Nat.one_mul] at this
                    omega
                  refine VR.eref _ b _ c hc (by omega) fun j hj => ?_
                  have := hv n.toNat j hlt (by omega)
                  simpa [List.getD, hx] using this
            · cases h
          · cases h
        · cases h
      · rename_i id len
        split at h
        · rename_i e he
          split at h
          · rename_i m hm
            split at h
            · rename_i hn
              cases h
              cases ha with
              | sl _ _ b hb =>
                refine ⟨.pointer (some ⟨b, 0 + n.toNat * m, none⟩), ?_, ?_⟩
                · simp [Instr.indexAt, asIntOf, run_underlying (telem_und he), h0, hn, tsize_run hm, Addr.add_lit]
                · rw [Nat.zero_add]
                  exact VR.ptr id _ b hb
            · cases h
          · cases h
        · cases h
      · split at h
        · rename_i len e ht
          split at h
          · rename_i m hm
            split at h
            · rename_i hn
              have hrun : ∀ b off, (Instr.indexAt t (.pointer (some ⟨b, off, none⟩)) (.int k n)).run P w = .ok (.pointer (some ⟨b, off + n.toNat * m, none⟩)) w := fun b off => by
                simp [Instr.indexAt, asIntOf, run_underlying (tarr_und ht), h0, hn, tsize_run hm, Addr.add_lit, Instr.sureAddr]
              split at h
              · cases h
                obtain ⟨b, hb, rfl⟩ := ha
                exact ⟨_, hrun b _, b, hb, rfl⟩
              · cases h
                cases ha with
                | ptr _ _ b hb => exact ⟨_, hrun b _, .ptr _ _ b hb⟩
              · split at h
                · rename_i hle
                  cases h
                  cases ha with
                  | eref cs b off c hc hle2 hv =>
                    refine ⟨_, hrun b off, ?_⟩
                    refine VR.eref _ b _ c hc (by simp; omega) fun i hi => ?_
                    have := hv (n.toNat * m + i) (by simp at hi; omega)
                    rw [← Nat.add_assoc] at this
                    simpa [List.getD] using this
                · cases h
              · cases h
            · cases h
          · cases h
        · cases h
    · cases h
  · cases h

theorem aindex_ok {t : TypeId} {a i v : AV} {x y : Value} (ha : SR g blk a x) (hi : SR g blk i y) (h : aindex P t a i = some v) : ∃ u, (Instr.index t x y).run P w = .ok u w ∧ VR g v u := by
  unfold aindex at h
  split at h
  · rename_i k n
    split at h
    · rename_i h0
      cases hi
      split at h
      · rename_i s
        split at h
        · rename_i ht
          simp only [Option.map_eq_some_iff] at h
          obtain ⟨c, hc, rfl⟩ := h
          cases ha
          have hlt : n.toNat < s.length := (List.getElem?_eq_some_iff.1 hc).1
          refine ⟨_, ?_, .int _ _⟩
          have e : (ByteArray.mk s.toArray)[n.toNat]? = some c := by
            rw [ByteArray.getElem?_lt' _ _ (by simpa [ByteArray.size] using hlt)]
            exact congrArg some (Eq.trans rfl (List.getElem?_eq_some_iff.1 hc).2)
          simp [Instr.index, asIntOf, run_underlying (tstr_und ht), h0, e]
        · cases h
      · rename_i cs
        split at h
        · rename_i len e ht
          split at h
          · rename_i m hm
            split at h
            · rename_i hn
              cases ha with
              | agg _ vs hl hv =>
                obtain ⟨u, e1, e2⟩ := apart_ok (P := P) (w := w) hl hv h
                exact ⟨u, by simp [Instr.index, asIntOf, run_underlying (tarr_und ht), h0, hn, tsize_run hm, e1], e2⟩
            · cases h
          · cases h
        · cases h
      · cases h
    · cases h
  · cases h

theorem run_bound {n : Int} {k : IntKind} {y : Nat} {code : BoundsCode} (h0 : 0 ≤ n) (h1 : n.toNat ≤ y) : (Instr.sliceBound (.int k n) y code).run P w = .ok n.toNat w := by
  have : n ≤ (y : Int) := by omega
  simp [Instr.sliceBound, asIntOf, h0, this]

theorem bnd_run {d n y : Nat} {a : Option AV} {x : Option Value} {code : BoundsCode} (h : bnd d a = some n) (hx : ∀ v, a = some v → ∃ u, x = some u ∧ SR g blk v u) (hnone : a = none → x = none) (hn : n ≤ y) :
    (∃ u, x = some u ∧ (Instr.sliceBound u y code).run P w = .ok n w) ∨ (x = none ∧ n = d) := by
  cases a with
  | none => simp [bnd] at h; exact .inr ⟨hnone rfl, h.symm⟩
  | some v =>
    obtain ⟨u, rfl, hu⟩ := hx v rfl
    cases v <;> simp [bnd] at h
    obtain ⟨h0, rfl⟩ := h
    cases hu
    exact .inl ⟨_, rfl, run_bound h0 hn⟩

theorem amax_ok {a b v : AV} {x y : Value} (ha : SR g blk a x) (hb : SR g blk b y) (h : amax a b = some v) (ts : Array TypeId) (t : TypeId) : ∃ u, (Builtin.max_ ts t #[x, y]).run P w = .ok u w ∧ VR g v u := by
  unfold amax at h
  split at h
  · cases h; cases ha; cases hb
    exact ⟨_, run_max_int2 w ts t _ _ _ _, .int _ _⟩
  · cases h
theorem amin_ok {a b v : AV} {x y : Value} (ha : SR g blk a x) (hb : SR g blk b y) (h : amin a b = some v) (ts : Array TypeId) (t : TypeId) : ∃ u, (Builtin.min_ ts t #[x, y]).run P w = .ok u w ∧ VR g v u := by
  unfold amin at h
  split at h
  · cases h; cases ha; cases hb
    exact ⟨_, run_min_int2 w ts t _ _ _ _, .int _ _⟩
  · cases h
theorem alen_ok {a v : AV} {x : Value} {t : TypeId} (ha : SR g blk a x) (h : alen P t a = some v) (ty : TypeId) (more : List TypeId) : ∃ u, (Builtin.len_ (t :: more).toArray ty #[x]).run P w = .ok u w ∧ VR g v u := by
  unfold alen at h
  split at h
  · split at h
    · rename_i ht
      cases h; cases ha
      exact ⟨_, by simp [Builtin.len_, run_underlying (tstr_und ht), goInt]; rfl, .int _ _⟩
    · cases h
  · split at h
    · rename_i ht
      obtain ⟨e, he⟩ := Option.isSome_iff_exists.1 ht
      cases h
      cases ha with
      | nils => exact ⟨_, by simp [Builtin.len_, run_underlying (telem_und he)]; rfl, .int _ _⟩
      | list => exact ⟨_, by simp [Builtin.len_, run_underlying (telem_und he)]; rfl, .int _ _⟩
    · cases h
  · split at h
    · rename_i ht
      obtain ⟨e, he⟩ := Option.isSome_iff_exists.1 ht
      cases h
      cases ha with
      | sl => exact ⟨_, by simp [Builtin.len_, run_underlying (telem_und he)]; rfl, .int _ _⟩
    · cases h
  · cases h

/-- A list that reads as a piece of another one. -/
theorem VR.piece {es : List AV} {tag' : Tag} {b off sz : Nat} {c : List Value} {l h cap' : Nat} (hc : g.vec b = some c) (hle : off + es.length * sz ≤ c.length)
    (hsz : ∀ i, i < es.length → ((es.getD i default).cells).length = sz)
    (hv : ∀ i j, i < es.length → j < sz → VR g ((es.getD i default).cells.getD j default) (c.getD (off + i * sz + j) undef))
    (hlh : l ≤ h) (hh : h ≤ es.length) (hcl : h - l ≤ cap') (hcm : cap' ≤ maxLen) (off' : Nat) (hoff : off' = off + l * sz ∨ (l = h ∧ off' = off))
    (htag : tag'.fits g b off' sz (h - l) cap') :
    VR g (.list ((es.take h).drop l) tag') (.slice (some ⟨b, off', none⟩) (h - l) cap') := by
  have hlen : ((es.take h).drop l).length = h - l := by simp; omega
  have key : ∀ i, i < h - l → ((es.take h).drop l).getD i default = es.getD (l + i) default := fun i hi => by
    simp [List.getD, List.getElem?_take_of_lt (show l + i < h by omega)]
  have hmul : ∀ a b : Nat, a ≤ b → a * sz ≤ b * sz := fun a b h => Nat.mul_le_mul_right _ h
  have e1 := hmul h es.length hh
  have e2 : (h - l) * sz + l * sz = h * sz := by rw [← Nat.add_mul]; congr 1; omega
  have hgoal : VR g (.list ((es.take h).drop l) tag') (.slice (some ⟨b, off', none⟩) ((es.take h).drop l).length cap') := by
    refine VR.list sz _ tag' b off' cap' c hc ?_ (by omega) hcm (by rw [hlen]; exact htag) (fun i hi => ?_) fun i j hi hj => ?_
    · rw [hlen]
      rcases hoff with rfl | ⟨rfl, rfl⟩
      · omega
      · simp; omega
    · rw [hlen] at hi
      rw [key i hi]
      exact hsz (l + i) (by omega)
    · rw [hlen] at hi
      rw [key i hi]
      have := hv (l + i) j (by omega) hj
      rcases hoff with rfl | ⟨rfl, rfl⟩
      · rw [show off + l * sz + i * sz + j = off + (l + i) * sz + j by rw [Nat.add_mul]; omega]
        exact this
      · omega
  rw [hlen] at hgoal
  exact hgoal

theorem run_bounds2 {b : Bool} {len cap : Nat} {lo hi : Option Value} {l h : Nat}
    (hlo : (∃ u, lo = some u ∧ (Instr.sliceBound u h .sliceB).run P w = .ok l w) ∨ (lo = none ∧ l = 0))
    (hhi : (∃ u, hi = some u ∧ (Instr.sliceBound u cap (if b then .sliceAcap else .sliceAlen)).run P w = .ok h w) ∨ (hi = none ∧ h = len)) :
    (Instr.sliceBounds b len cap lo hi none).run P w = .ok (l, h, cap) w := by
  rcases hlo with ⟨u, rfl, h1⟩ | ⟨rfl, rfl⟩ <;> rcases hhi with ⟨u', rfl, h2⟩ | ⟨rfl, rfl⟩ <;> simp [Instr.sliceBounds, *]

theorem run_bounds3 {b : Bool} {len cap : Nat} {lo hi : Option Value} {mx : Value} {l h m : Nat}
    (hmx : (Instr.sliceBound mx cap (if b then .slice3Acap else .slice3Alen)).run P w = .ok m w)
    (hlo : (∃ u, lo = some u ∧ (Instr.sliceBound u h .slice3C).run P w = .ok l w) ∨ (lo = none ∧ l = 0))
    (hhi : ∃ u, hi = some u ∧ (Instr.sliceBound u m .slice3B).run P w = .ok h w) :
    (Instr.sliceBounds b len cap lo hi (some mx)).run P w = .ok (l, h, m) w := by
  obtain ⟨u', rfl, h2⟩ := hhi
  rcases hlo with ⟨u, rfl, h1⟩ | ⟨rfl, rfl⟩ <;> simp [Instr.sliceBounds, *]

theorem acut_eq {α : Type} {es : List α} {l h : Nat} {hi : Option AV} (hb : bnd es.length hi = some h) : acut es l h hi.isSome = (es.take h).drop l := by
  cases hi with
  | none => simp [bnd] at hb; subst hb; simp [acut]
  | some v => simp [acut]

theorem aslice_ok {t : TypeId} {a v : AV} {x : Value} {lo hi mx : Option AV} {lo' hi' mx' : Option Value} (ha : SR g blk a x)
    (hlo : (∀ v, lo = some v → ∃ u, lo' = some u ∧ SR g blk v u) ∧ (lo = none → lo' = none)) (hhi : (∀ v, hi = some v → ∃ u, hi' = some u ∧ SR g blk v u) ∧ (hi = none → hi' = none))
    (hmx : (∀ v, mx = some v → ∃ u, mx' = some u ∧ SR g blk v u) ∧ (mx = none → mx' = none)) (h : aslice P t a lo hi mx = some v) :
    ∃ u, (Instr.sliceAt t x lo' hi' mx').run P w = .ok u w ∧ VR g v u := by
  unfold aslice at h
  split at h
  · rename_i s
    split at h
    · rename_i ht
      cases ha
      split at h
      · rename_i l hh h1 h2
        split at h
        · rename_i hle
          rw [acut_eq h2] at h
          cases h
          obtain rfl : mx' = none := hmx.2 rfl
          have b1 := bnd_run (P := P) (w := w) (y := hh) (code := .sliceB) h1 hlo.1 hlo.2 hle.1
          have b2 := bnd_run (P := P) (w := w) (y := s.length) (code := .sliceAlen) h2 hhi.1 hhi.2 hle.2
          have hsz : (ByteArray.mk s.toArray).size = s.length := by simp [ByteArray.size]
          have hb := run_bounds2 (P := P) (w := w) (b := false) (len := s.length) (cap := s.length) b1 b2
          refine ⟨_, ?_, .str _⟩
          simp only [Instr.sliceAt, Sem.run_bind, run_underlying (tstr_und ht), Result.andThen_ok, Instr.slice, hsz, Option.isSome_none, Bool.false_eq_true, if_false, Sem.run_pure, hb]
          congr 2
          have h3 := Lib.extract_data ⟨s.toArray⟩ l hh
          generalize (ByteArray.mk s.toArray).extract l hh = z at h3
          obtain ⟨⟨z⟩⟩ := z
          simp only at h3
          rw [h3, List.drop_take]
        · cases h
      · cases h
    · cases h
  · rename_i es tag
    split at h
    · rename_i e he
      split at h
      · rename_i hsome
        obtain ⟨m, hm, hsized⟩ : ∃ m, tsize P e = some m ∧ sized m es = true := by
          cases hm : tsize P e with
          | none => simp [hm] at hsome
          | some m => exact ⟨m, rfl, by simpa [hm] using hsome⟩
        have hszm : ∀ sz, (∀ i, i < es.length → ((es.getD i default).cells).length = sz) → 0 < es.length → sz = m := fun sz hsz h0 => by
          have h1 := hsz 0 h0
          rw [getD_eq _ _ _ h0] at h1
          simp only [sized, List.all_eq_true, Bool.and_eq_true, beq_iff_eq] at hsized
          rw [← h1]
          exact (hsized _ (List.getElem_mem h0)).1
        have hslice : ∀ A n c l hh mm, (Instr.sliceBounds true n c lo' hi' mx').run P w = .ok (l, hh, mm) w → (Instr.sliceAt t (.slice A n c) lo' hi' mx').run P w = .ok (.slice (if mm = l then A else A.map (·.add (l * m))) (hh - l) (mm - l)) w := fun A n c l hh mm hb => by
          simp [Instr.sliceAt, run_underlying (telem_und he), Instr.slice, hb, tsize_run hm]
        split at h
        · rename_i l hh h1 h2
          split at h
          · rename_i hle
            rw [acut_eq h2] at h
            cases h
            obtain rfl : mx' = none := hmx.2 rfl
            have hel : ∃ A c, x = .slice A es.length c ∧ es.length ≤ c := by
              cases ha with
              | nils => exact ⟨_, _, rfl, Nat.le_refl _⟩
              | list sz _ _ b off cap c hc hle hcap hmax htag hsz hv => exact ⟨_, _, rfl, hcap⟩
            obtain ⟨A, cap, rfl, hcap⟩ := hel
            have b1 := bnd_run (P := P) (w := w) (y := hh) (code := .sliceB) h1 hlo.1 hlo.2 hle.1
            have b2 := bnd_run (P := P) (w := w) (y := cap) (code := .sliceAcap) h2 hhi.1 hhi.2 (by omega)
            have hb := run_bounds2 (P := P) (w := w) (b := true) (len := es.length) (cap := cap) b1 b2
            refine ⟨_, hslice A _ _ _ _ _ hb, ?_⟩
            generalize hA : Value.slice A es.length cap = z at ha
            cases ha with
            | nils =>
              simp only [List.length_nil, Nat.le_zero] at hle
              obtain ⟨h3, rfl⟩ := hle
              obtain rfl : l = 0 := by omega
              cases hA
              simpa using VR.nils _
            | list sz _ _ b off cap' c hc hle2 hcap2 hmax htag hsz hv =>
              cases hA
              by_cases h0 : es.length = 0
              · obtain rfl : es = [] := List.eq_nil_of_length_eq_zero h0
                simp only [List.length_nil, Nat.le_zero] at hle
                obtain ⟨h3, rfl⟩ := hle
                obtain rfl : l = 0 := by omega
                have := VR.list sz [] tag b off cap c hc hle2 hcap2 hmax htag hsz hv
                have h4 : cutTag tag 0 true = tag := by cases tag <;> rfl
                simpa [Addr.add_lit, h4] using this
              · obtain rfl := hszm sz hsz (by omega)
                have e2 : off + l * sz + (hh - l) * sz = off + hh * sz := by rw [Nat.add_assoc, ← Nat.add_mul]; congr 2; omega
                have e3 : off + l * sz + (cap - l) * sz = off + cap * sz := by rw [Nat.add_assoc, ← Nat.add_mul]; congr 2; omega
                by_cases hcl : cap = l
                · rw [if_pos hcl]
                  refine VR.piece hc hle2 hsz hv hle.1 hle.2 (by omega) (by omega) off (.inr ⟨by omega, rfl⟩) ?_
                  have hz : cap - l = hh - l := by omega
                  cases tag with
                  | no => trivial
                  | full =>
                    simp only [cutTag]
                    split
                    · exact hz
                    · trivial
                  | tok t =>
                    simp only [cutTag]
                    split
                    · exact .inl (by omega)
                    · trivial
                · rw [if_neg hcl]
                  simp only [Option.map_some, Addr.add_lit]
                  refine VR.piece hc hle2 hsz hv hle.1 hle.2 (by omega) (by omega) _ (.inl rfl) ?_
                  cases tag with
                  | no => trivial
                  | full =>
                    simp only [cutTag]
                    split
                    · rename_i heq
                      have heq' : hh = es.length := by simpa using heq
                      have : cap = es.length := htag
                      exact (by omega : cap - l = hh - l)
                    · trivial
                  | tok t =>
                    simp only [cutTag]
                    split
                    · rename_i heq
                      simp only [Bool.and_eq_true, beq_iff_eq] at heq
                      obtain ⟨heq, rfl⟩ := heq
                      rcases htag with h3 | h3
                      · exact .inl (by omega)
                      · refine .inr ⟨by omega, ?_⟩
                        rw [e2, e3, heq]
                        exact h3.2
                    · trivial
          · cases h
        · rename_i l hh k mm h1 h2
          split at h
          · rename_i hle
            cases h
            obtain ⟨hlh, hhm, hhe, hhs⟩ := hle
            obtain ⟨u, rfl, hu⟩ := hmx.1 _ rfl
            cases hu
            have hel : ∃ A c, x = .slice A es.length c ∧ es.length ≤ c := by
              cases ha with
              | nils => exact ⟨_, _, rfl, Nat.le_refl _⟩
              | list sz _ _ b off cap c hc hle hcap hmax htag hsz hv => exact ⟨_, _, rfl, hcap⟩
            obtain ⟨A, cap, rfl, hcap⟩ := hel
            have b0 := run_bound (P := P) (w := w) (k := k) (n := mm) (y := cap) (code := .slice3Acap) (by omega) (by omega)
            have b1 := bnd_run (P := P) (w := w) (y := hh) (code := .slice3C) h1 hlo.1 hlo.2 hlh
            have b2 := bnd_run (P := P) (w := w) (y := mm.toNat) (code := .slice3B) h2 hhi.1 hhi.2 (by omega)
            have b2' : ∃ u, hi' = some u ∧ (Instr.sliceBound u mm.toNat .slice3B).run P w = .ok hh w := by
              rcases b2 with b2 | ⟨b2, _⟩
              · exact b2
              · obtain ⟨v, hv⟩ := Option.isSome_iff_exists.1 hhs
                obtain ⟨u, hu, _⟩ := hhi.1 v hv
                rw [b2] at hu
                cases hu
            have hb := run_bounds3 (P := P) (w := w) (b := true) (len := es.length) (cap := cap) b0 b1 b2'
            refine ⟨_, hslice A _ _ _ _ _ hb, ?_⟩
            have hmh : mm.toNat = hh := by omega
            rw [hmh]
            generalize hA : Value.slice A es.length cap = z at ha
            cases ha with
            | nils =>
              simp only [List.length_nil, Nat.le_zero] at hhe
              subst hhe
              obtain rfl : l = 0 := by omega
              cases hA
              simpa using VR.nils _
            | list sz _ _ b off cap' c hc hle2 hcap2 hmax htag hsz hv =>
              cases hA
              by_cases h0 : es.length = 0
              · obtain rfl : es = [] := List.eq_nil_of_length_eq_zero h0
                simp only [List.length_nil, Nat.le_zero] at hhe
                subst hhe
                obtain rfl : l = 0 := by omega
                have := VR.list sz [] .full b off 0 c hc hle2 (Nat.le_refl _) (by omega) rfl hsz hv
                simpa [Addr.add_lit] using this
              · obtain rfl := hszm sz hsz (by omega)
                by_cases hcl : hh = l
                · rw [if_pos hcl]
                  exact VR.piece hc hle2 hsz hv hlh hhe (by omega) (by omega) off (.inr ⟨by omega, rfl⟩) rfl
                · rw [if_neg hcl]
                  simp only [Option.map_some, Addr.add_lit]
                  exact VR.piece hc hle2 hsz hv hlh hhe (by omega) (by omega) _ (.inl rfl) rfl
          · cases h
        · cases h
      · cases h
    · cases h
  · cases h

end
end Go.Am
