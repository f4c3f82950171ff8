/- The statement DecisionFills. No condition. -/
import Derived.Test.YtcnmodnafnadlaaRows
import Derived.Test.YtcnmodnafnadlaaD11
import Derived.Test.YtcnmodnafnadlaaE5
namespace Go.Proofs.Ytcnmodnafnadlaa.decisionFillsDone
open Go Go.Abs
open Go.ChangeShapes Go.WideShapes Go.ChangeAt Go.RowKit
set_option linter.unusedVariables false

theorem own : ownKnob Try.prog.godebug = none := by kernel_rfl
theorem laidOut : laidOutB Try.prog = true := by kernel_rfl

theorem walk (W : World) (a0 : Int) (w0 : InR .u8 a0) (v1 : Value) (e1 : Dec) (h1 : VRel (oldSg W) (.st e1.cs) v1) :
    Calls Try.prog 4 #[.int .u8 a0, v1] W fun r W' => r = .returned (.bool true) ∧ Below W.heap.size W W' := by
  have hc := ((r_law_DecisionFills a0 w0 e1 AH.emp) AH.emp (AH.leB.refl _)).mono (R' := fun r _ => r = .bool true) (fun r h' hr => hr.1)
  have := ACalls.below hc (w := W) (vs := [.int .u8 a0, v1]) (.cons (.int .u8 a0 w0) (.cons h1 (.nil _)))
  refine this.mono fun r W' ⟨⟨s, v, h2, h3⟩, h4⟩ => ⟨?_, h4⟩
  rw [h2, h3.bool_inv]

set_option maxRecDepth 100000 in
theorem lifted (os : Os) (started : os.Started) (H : Type) (enc : TypeId × Value → H) :
    ReturnsInHanded {} Try.checked os 4 .any (Rows.decisionFillsSpec.pre6 enc Try.prog Try.f4 Rows.decisionFillsRow.domain false) (Rows.decisionFillsSpec.post enc Try.prog Try.f4 false true false false) := by
  refine returnsInHanded_of_change (C := Try.checked) own started (by kernel_rfl) Try.func4
    (ChangeSpec.witness6 (enc := enc) (C := Try.checked) false ⟨#[], #[.int .u8 0, .agg #[.int .i64 0, .int .i64 0, .int .i64 0, .int .i64 0, .int .i64 0]], []⟩ 8 (by kernel_rfl) (by kernel_rfl) (by kernel_rfl) (by kernel_rfl)) ?_
  intro W base args ds gs before hval0 hW hcnd _
  have hval : ∀ (j : Nat) t v, Try.f4.params[j]? = some t → args[j]? = some v → Value.okWide Try.prog W .any base t v := hval0
  have hW' := hW
  obtain ⟨p, q, hA0, hV, rfl, hfz, hnd⟩ := hW
  have hA : DataW.TrodAll enc Try.prog W 0 (fun _ => true) true Try.f4.params.toList args.toList ds p := hA0
  rw [Try.params4] at hA hval
  obtain ⟨v0, vs0, d0, ds0, p0, q0, hargs, rfl, rfl, h0, r0⟩ := trodAll_cons hA
  obtain ⟨v1, vs1, d1, ds1, p1, q1, rfl, rfl, rfl, h1, r1⟩ := trodAll_cons r0
  obtain ⟨rfl, rfl, rfl⟩ := trodAll_nil r1
  obtain rfl : args = #[v0, v1] := by cases args; simp_all
  obtain ⟨rfl, rfl⟩ := trodVars_none hV
  obtain ⟨a0, rfl, rfl, rfl, w0⟩ := open_int Try.underlying5 (hval 0 5 v0 rfl rfl) h0
  obtain ⟨cs1, rfl, sz1⟩ := okWide_struct Try.underlying31 (hval 1 31 v1 rfl rfl)
  have k1 := h1
  have lt1 : ∀ x ∈ p1, x.block < W.heap.size := by obtain ⟨m, hm⟩ := k1; exact DataW.trod_lt m _ _ _ hm
  obtain ⟨fuel1, hf1⟩ := h1
  obtain ⟨xs1, hh1, hr1⟩ := trod_has (P := Try.prog) 8 fuel1 31 _ _ _ (by kernel_rfl : tyOf Try.prog 8 31 = some (.st [.int .i64, .int .i64, .int .i64, .int .i64, .int .i64])) hf1
  obtain ⟨e1, rfl⟩ := has_dec hh1
  have hq1 : VRel (oldSg W) (.st e1.cs) (.agg cs1) := VRels.agg hr1
  clear hA0 hval0
  refine (walk W a0 (by simpa [Lit.wf, InR] using w0) _ e1 hq1).mono fun r W' ⟨he, bel⟩ => ?_
  subst he
  exact ⟨_, rfl, _, _, _, [], _, [], hW', trodAll_mk1 (shut_bool Try.underlying4 _), (trodAll_cons_mk (shut_int Try.underlying5 w0) (trodAll_cons_mk (Below.trod laidOut (by kernel_rfl) (of_decide_eq_true (by kernel_rfl)) k1 bel lt1) trodAll_mk0)), rfl, bel.frame _, fun h => by cases h⟩

theorem over : Rows.decisionFillsRow.holds Try.pinned (OpenSpec.ofChange Rows.decisionFillsSpec) :=
  OpenClaim.holds_of_wide 4 Try.f4 rfl rfl rfl rfl rfl rfl rfl ⟨rfl, rfl, rfl, rfl, rfl⟩ rfl rfl rfl rfl rfl (by kernel_rfl) Try.func4 (by kernel_rfl)
    (of_decide_eq_true (by kernel_rfl)) (by unfold Func.isWrapper; first | (rw [if_pos (by decide +kernel)]; kernel_rfl) | (rw [if_neg (by decide +kernel)]; exact ⟨rfl, rfl⟩))
    (fun os started H enc _ => lifted os started H enc)

theorem proved : Rows.DecisionFillsSaid := over
end Go.Proofs.Ytcnmodnafnadlaa.decisionFillsDone
#print axioms Go.Proofs.Ytcnmodnafnadlaa.decisionFillsDone.proved
