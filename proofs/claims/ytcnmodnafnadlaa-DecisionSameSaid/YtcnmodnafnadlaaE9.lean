/- The statement DecisionSame. No condition. -/
import Derived.Test.YtcnmodnafnadlaaRows
import Derived.Test.YtcnmodnafnadlaaD14
namespace Go.Proofs.Ytcnmodnafnadlaa.decisionSameDone
open Go Go.Abs
open Go.ChangeShapes Go.WideShapes Go.ChangeAt Go.RowKit
set_option linter.unusedVariables false

theorem own : ownKnob Try.prog.godebug = none := by kernel_rfl
theorem laidOut : laidOutB Try.prog = true := by kernel_rfl

theorem walk (W : World) (v0 : Value) (nl0 : Bool) (e0 : List Op) (h0 : VRel (oldSg W) (.sl nl0 e0.length (ops e0) .unk) v0) (v1 : Value) (nl1 : Bool) (e1 : List Op) (h1 : VRel (oldSg W) (.sl nl1 e1.length (ops e1) .unk) v1) :
    Calls Try.prog 9 #[v0, v1] W fun r W' => r = .returned (.bool true) ∧ Below W.heap.size W W' := by
  have hc := ((r_law_DecisionSame nl0 e0 .unk nl1 e1 .unk AH.emp) AH.emp (AH.leB.refl _)).mono (R' := fun r _ => r = .bool true) (fun r h' hr => hr.1)
  have := ACalls.below hc (w := W) (vs := [v0, v1]) (.cons h0 (.cons h1 (.nil _)))
  refine this.mono fun r W' ⟨⟨s, v, h2, h3⟩, h4⟩ => ⟨?_, h4⟩
  rw [h2, h3.bool_inv]

set_option maxRecDepth 100000 in
theorem lifted (os : Os) (started : os.Started) (H : Type) (enc : TypeId × Value → H) :
    ReturnsInHanded {} Try.checked os 9 .any (Rows.decisionSameSpec.pre6 enc Try.prog Try.f9 Rows.decisionSameRow.domain false) (Rows.decisionSameSpec.post enc Try.prog Try.f9 false true false false) := by
  refine returnsInHanded_of_change (C := Try.checked) own started (by kernel_rfl) Try.func9
    (ChangeSpec.witness6 (enc := enc) (C := Try.checked) false ⟨#[], #[.slice none 0 0, .slice none 0 0], []⟩ 8 (by kernel_rfl) (by kernel_rfl) (by kernel_rfl) (by kernel_rfl)) ?_
  intro W base args ds gs before hval0 hW hcnd _
  have hval : ∀ (j : Nat) t v, Try.f9.params[j]? = some t → args[j]? = some v → Value.okWide Try.prog W .any base t v := hval0
  have hW' := hW
  obtain ⟨p, q, hA0, hV, rfl, hfz, hnd⟩ := hW
  have hA : DataW.TrodAll enc Try.prog W 0 (fun _ => true) true Try.f9.params.toList args.toList ds p := hA0
  rw [Try.params9] at hA hval
  obtain ⟨v0, vs0, d0, ds0, p0, q0, hargs, rfl, rfl, h0, r0⟩ := trodAll_cons hA
  obtain ⟨v1, vs1, d1, ds1, p1, q1, rfl, rfl, rfl, h1, r1⟩ := trodAll_cons r0
  obtain ⟨rfl, rfl, rfl⟩ := trodAll_nil r1
  obtain rfl : args = #[v0, v1] := by cases args; simp_all
  obtain ⟨rfl, rfl⟩ := trodVars_none hV
  obtain ⟨a0, len0, cap0, rfl⟩ := okWide_slice Try.underlying22 (hval 0 22 v0 rfl rfl)
  have k0 := h0
  have lt0 : ∀ x ∈ p0, x.block < W.heap.size := by obtain ⟨m, hm⟩ := k0; exact DataW.trod_lt m _ _ _ hm
  obtain ⟨fuel0, hf0⟩ := h0
  obtain ⟨xs0, hh0, hr0⟩ := trod_has (P := Try.prog) 5 fuel0 22 _ _ _ (by kernel_rfl : tyOf Try.prog 5 22 = some (.sl (.st [.bool, .st [.int .i64, .int .i64, .int .i64, .int .i64, .int .i64], .st [.int .i64, .int .i64]]))) hf0
  obtain ⟨nl0, e0, rfl⟩ := has_ops hh0
  have hq0 : VRel (oldSg W) (.sl nl0 e0.length (ops e0) .unk) (.slice a0 len0 cap0) := hr0.2 0 _ _ rfl rfl
  obtain ⟨a1, len1, cap1, rfl⟩ := okWide_slice Try.underlying22 (hval 1 22 v1 rfl rfl)
  have k1 := h1
  have lt1 : ∀ x ∈ p1, x.block < W.heap.size := by obtain ⟨m, hm⟩ := k1; exact DataW.trod_lt m _ _ _ hm
  obtain ⟨fuel1, hf1⟩ := h1
  obtain ⟨xs1, hh1, hr1⟩ := trod_has (P := Try.prog) 5 fuel1 22 _ _ _ (by kernel_rfl : tyOf Try.prog 5 22 = some (.sl (.st [.bool, .st [.int .i64, .int .i64, .int .i64, .int .i64, .int .i64], .st [.int .i64, .int .i64]]))) hf1
  obtain ⟨nl1, e1, rfl⟩ := has_ops hh1
  have hq1 : VRel (oldSg W) (.sl nl1 e1.length (ops e1) .unk) (.slice a1 len1 cap1) := hr1.2 0 _ _ rfl rfl
  clear hA0 hval0
  refine (walk W _ nl0 e0 hq0 _ nl1 e1 hq1).mono fun r W' ⟨he, bel⟩ => ?_
  subst he
  exact ⟨_, rfl, _, _, _, [], _, [], hW', trodAll_mk1 (shut_bool Try.underlying4 _), (trodAll_cons_mk (Below.trod laidOut (by kernel_rfl) (of_decide_eq_true (by kernel_rfl)) k0 bel lt0) (trodAll_cons_mk (Below.trod laidOut (by kernel_rfl) (of_decide_eq_true (by kernel_rfl)) k1 bel lt1) trodAll_mk0)), rfl, bel.frame _, fun h => by cases h⟩

theorem over : Rows.decisionSameRow.holds Try.pinned (OpenSpec.ofChange Rows.decisionSameSpec) :=
  OpenClaim.holds_of_wide 9 Try.f9 rfl rfl rfl rfl rfl rfl rfl ⟨rfl, rfl, rfl, rfl, rfl⟩ rfl rfl rfl rfl rfl (by kernel_rfl) Try.func9 (by kernel_rfl)
    (of_decide_eq_true (by kernel_rfl)) (by unfold Func.isWrapper; first | (rw [if_pos (by decide +kernel)]; kernel_rfl) | (rw [if_neg (by decide +kernel)]; exact ⟨rfl, rfl⟩))
    (fun os started H enc _ => lifted os started H enc)

theorem proved : Rows.DecisionSameSaid := over
end Go.Proofs.Ytcnmodnafnadlaa.decisionSameDone
#print axioms Go.Proofs.Ytcnmodnafnadlaa.decisionSameDone.proved
