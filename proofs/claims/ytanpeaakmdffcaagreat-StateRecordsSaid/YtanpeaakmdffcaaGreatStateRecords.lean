/- The statement 'StateRecords' is proved: for every input the law returns true, and the input reads as it did. No conditions. -/
import Derived.Test.YtanpeaakmdffcaaGreatW10
import Derived.Test.YtanpeaakmdffcaaGreatW29
import Derived.Test.YtanpeaakmdffcaaGreatRows
import Derived.WalkKit
import Derived.ProofKit
import Derived.OpenShut
import Derived.ShutString
import Derived.ChangeOld
import Derived.Below
import Derived.Carry
import Derived.Lib.SmallJoins
set_option linter.all false
set_option maxRecDepth 100000
namespace Go.Proofs.YtanpeaakmdffcaaGreat.stateRecordsDone
open Go.ChangeShapes Go.WideShapes Go.ChangeAt Go.RowKit Go.Joins Go.Am
set_option linter.unusedVariables false

theorem own : ownKnob Tryz.prog.godebug = none := by kernel_rfl
theorem laidOut : laidOutB Tryz.prog = true := by kernel_rfl
theorem cells39 : Tryz.prog.cellsOf 39 = 4 := by kernel_rfl

theorem i63 {n : Int} (h : (Lit.int .i64 n).wf = true) : I63 n := by
  simp [Lit.wf, IntKind.min, IntKind.max, IntKind.signed, IntKind.bits] at h
  unfold I63
  omega

/-- The walk's end, on the machine. -/
theorem walk (a0 a1 k n p : Int) (s : ByteArray) (w : World) (w0 : (Lit.int .i64 a0).wf = true) (w1 : (Lit.int .i64 a1).wf = true) (w2 : (Lit.int .i64 n).wf = true) :
    Calls Tryz.prog 4 #[.int .i64 a0, .int .i64 a1, .agg #[.int .i64 k, .int .i64 n, .int .i64 p, .string s]] w fun e w' => e = .returned (.bool true) ∧ Below w.heap.size w w' := by
  refine (c4 a0 a1 ⟨k, n, p, s.data.toList⟩ (i63 w0) (i63 w1) (i63 w2)).truth w _ ?_
  have hs : VR (gh0 w) (.str s.data.toList) (.string s) := by
    have := VR.str (g := gh0 w) s.data.toList
    have e : (⟨s.data.toList.toArray⟩ : ByteArray) = s := by cases s; simp
    rw [e] at this
    exact this
  exact areVR_cons (.int _ _) (areVR_cons (.int _ _) (areVR_cons (VR.agg' (areVR_cons (.int _ _) (areVR_cons (.int _ _) (areVR_cons (.int _ _) (areVR_cons hs (areVR_nil _)))))) (areVR_nil _)))

theorem lifted (os : Os) (started : os.Started) (H : Type) (enc : TypeId × Value → H) :
    ReturnsInHanded {} Tryz.checked os 4 .any (Rows.stateRecordsSpec.pre6 enc Tryz.prog Tryz.f4 Rows.stateRecordsRow.domain false) (Rows.stateRecordsSpec.post enc Tryz.prog Tryz.f4 false true false false) := by
  refine returnsInHanded_of_change (C := Tryz.checked) own started (by kernel_rfl) Tryz.func4
    (ChangeSpec.witness6 (enc := enc) (C := Tryz.checked) false ⟨#[], #[.int .i64 0, .int .i64 0, .agg #[.int .i64 0, .int .i64 0, .int .i64 0, .string ⟨#[]⟩]], []⟩ 8 (by kernel_rfl) (by kernel_rfl) (by kernel_rfl) (by kernel_rfl)) ?_
  intro W base args ds gs before hval0 hW hcnd _
  have hval : ∀ (j : Nat) t v, Tryz.f4.params[j]? = some t → args[j]? = some v → Value.okWide Tryz.prog W .any base t v := hval0
  have hW' := hW
  obtain ⟨p, q, hA0, hV, rfl, hfz, hnd⟩ := hW
  have hA : DataW.TrodAll enc Tryz.prog W 0 (fun _ => true) true Tryz.f4.params.toList args.toList ds p := hA0
  rw [Tryz.params4] at hA hval
  obtain ⟨v0, vs0, d0, ds0, p0, q0, hargs, rfl, rfl, h0, r0⟩ := trodAll_cons hA
  obtain ⟨v1, vs1, d1, ds1, p1, q1, rfl, rfl, rfl, h1, r1⟩ := trodAll_cons r0
  obtain ⟨v2, vs2, d2, ds2, p2, q2, rfl, rfl, rfl, h2, r2⟩ := trodAll_cons r1
  obtain ⟨rfl, rfl, rfl⟩ := trodAll_nil r2
  obtain rfl : args = #[v0, v1, v2] := by cases args; simp_all
  obtain ⟨rfl, rfl⟩ := trodVars_none hV
  obtain ⟨a0, rfl, rfl, rfl, w0⟩ := open_int Tryz.underlying3 (hval 0 3 v0 rfl rfl) h0
  obtain ⟨a1, rfl, rfl, rfl, w1⟩ := open_int Tryz.underlying3 (hval 1 3 v1 rfl rfl) h1
  have k2 := h2
  have lt2 : ∀ x ∈ p2, x.block < W.heap.size := by obtain ⟨m, hm⟩ := k2; exact DataW.trod_lt m _ _ _ hm
  obtain ⟨c0, c1, c2, c3, y0, y1, y2, y3, m, rfl, hd2, hp2, hy0, hy1, hy2, hy3⟩ := open_agg4 Tryz.underlying39 (by kernel_rfl) cells39 (hval 2 39 v2 rfl rfl) h2
  obtain ⟨k, e0, _, wk⟩ := DataW.trod_int Tryz.underlying3 hy0
  obtain ⟨n, e1, _, wn⟩ := DataW.trod_int Tryz.underlying3 hy1
  obtain ⟨pt, e2, _, wp⟩ := DataW.trod_int Tryz.underlying3 hy2
  obtain ⟨s, e3, _, ws⟩ := DataW.trod_string Tryz.underlying9 hy3
  simp only [List.cons.injEq, and_true] at e0 e1 e2 e3
  subst e0 e1 e2 e3
  clear hA0 hval0
  refine (walk a0 a1 k n pt s W w0 w1 wn).mono fun e W' ⟨he, bel⟩ => ?_
  subst he
  exact ⟨_, rfl, _, _, _, [], _, [], hW', trodAll_mk1 (shut_bool Tryz.underlying4 _), (trodAll_cons_mk (shut_int Tryz.underlying3 w0) (trodAll_cons_mk (shut_int Tryz.underlying3 w1) (trodAll_cons_mk (Below.trod laidOut (by kernel_rfl) (of_decide_eq_true (by kernel_rfl)) k2 bel lt2) trodAll_mk0))), rfl, bel.frame _, fun h => by cases h⟩

theorem over : Rows.stateRecordsRow.holds Tryz.pinned (OpenSpec.ofChange Rows.stateRecordsSpec) :=
  OpenClaim.holds_of_wide 4 Tryz.f4 rfl rfl rfl rfl rfl rfl rfl ⟨rfl, rfl, rfl, rfl, rfl⟩ rfl rfl rfl rfl rfl (by kernel_rfl) Tryz.func4 (by kernel_rfl)
    (of_decide_eq_true (by kernel_rfl)) (by unfold Func.isWrapper; first | (rw [if_pos (by decide +kernel)]; kernel_rfl) | (rw [if_neg (by decide +kernel)]; exact ⟨rfl, rfl⟩))
    (fun os started H enc _ => lifted os started H enc)

/-- The statement. -/
theorem proved : Rows.StateRecordsSaid := over
#print axioms proved
end Go.Proofs.YtanpeaakmdffcaaGreat.stateRecordsDone
