/- The statement WholeContradiction. No condition. -/
import Derived.Test.YtidmekdkfiljjaaGreatRows
import Derived.Test.YtidmekdkfiljjaaGreatK33
import Derived.Test.YtidmekdkfiljjaaGreatK23
namespace Go.Proofs.YtidmekdkfiljjaaGreat.wholeContradictionDone
open Go Go.Abs
open Go.ChangeShapes Go.WideShapes Go.ChangeAt Go.RowKit
set_option linter.unusedVariables false

theorem own : ownKnob Tryz.prog.godebug = none := by kernel_rfl
theorem laidOut : laidOutB Tryz.prog = true := by kernel_rfl

theorem walk (W : World) (v0 : Value) (nl0 : Bool) (e0 : List P.Spm) (h0 : VRel (oldSg W) (.sl nl0 e0.length (P.sms e0) .unk) v0) (v1 : Value) (nl1 : Bool) (e1 : List (Int × Int)) (h1 : VRel (oldSg W) (.sl nl1 e1.length (prs e1) .unk) v1) (v2 : Value) (nl2 : Bool) (e2 : List Int) (h2 : VRel (oldSg W) (.sl nl2 e2.length (u8s e2) .unk) v2) :
    Calls Tryz.prog 3 #[v0, v1, v2] W fun r W' => r = .returned (.bool true) ∧ Below W.heap.size W W' := by
  have hc := ((r_top_WholeContradiction nl0 e0 .unk nl1 e1 .unk nl2 e2 .unk AH.emp) AH.emp (AH.leB.refl _)).mono (R' := fun r _ => r = .bool true) (fun r h' hr => hr.1)
  have := ACalls.below hc (w := W) (vs := [v0, v1, v2]) (.cons h0 (.cons h1 (.cons h2 (.nil _))))
  refine this.mono fun r W' ⟨⟨s, v, h2, h3⟩, h4⟩ => ⟨?_, h4⟩
  rw [h2, h3.bool_inv]

set_option maxRecDepth 100000 in
theorem lifted (os : Os) (started : os.Started) (H : Type) (enc : TypeId × Value → H) :
    ReturnsInHanded {} Tryz.checked os 3 .any (Rows.wholeContradictionSpec.pre6 enc Tryz.prog Tryz.f3 Rows.wholeContradictionRow.domain false) (Rows.wholeContradictionSpec.post enc Tryz.prog Tryz.f3 false true false false) := by
  refine returnsInHanded_of_change (C := Tryz.checked) own started (by kernel_rfl) Tryz.func3
    (ChangeSpec.witness6 (enc := enc) (C := Tryz.checked) false ⟨#[], #[.slice none 0 0, .slice none 0 0, .slice none 0 0], []⟩ 8 (by kernel_rfl) (by kernel_rfl) (by kernel_rfl) (by kernel_rfl)) ?_
  intro W base args ds gs before hval0 hW hcnd _
  have hval : ∀ (j : Nat) t v, Tryz.f3.params[j]? = some t → args[j]? = some v → Value.okWide Tryz.prog W .any base t v := hval0
  have hW' := hW
  obtain ⟨p, q, hA0, hV, rfl, hfz, hnd⟩ := hW
  have hA : DataW.TrodAll enc Tryz.prog W 0 (fun _ => true) true Tryz.f3.params.toList args.toList ds p := hA0
  rw [Tryz.params3] at hA hval
  obtain ⟨v0, vs0, d0, ds0, p0, q0, hargs, rfl, rfl, h0, r0⟩ := trodAll_cons hA
  obtain ⟨v1, vs1, d1, ds1, p1, q1, rfl, rfl, rfl, h1, r1⟩ := trodAll_cons r0
  obtain ⟨v2, vs2, d2, ds2, p2, q2, rfl, rfl, rfl, h2, r2⟩ := trodAll_cons r1
  obtain ⟨rfl, rfl, rfl⟩ := trodAll_nil r2
  obtain rfl : args = #[v0, v1, v2] := by cases args; simp_all
  obtain ⟨rfl, rfl⟩ := trodVars_none hV
  obtain ⟨a0, len0, cap0, rfl⟩ := okWide_slice Tryz.underlying22 (hval 0 22 v0 rfl rfl)
  have k0 := h0
  have lt0 : ∀ x ∈ p0, x.block < W.heap.size := by obtain ⟨m, hm⟩ := k0; exact DataW.trod_lt m _ _ _ hm
  obtain ⟨fuel0, hf0⟩ := h0
  obtain ⟨xs0, hh0, hr0⟩ := trod_has (P := Tryz.prog) 5 fuel0 22 _ _ _ (by kernel_rfl : tyOf Tryz.prog 5 22 = some (.sl (.st [.int .i64, .int .i64, .int .i64, .int .i64, .int .i64, .int .i64, .int .i64]))) hf0
  obtain ⟨nl0, e0, rfl⟩ := P.has_sms hh0
  have hq0 : VRel (oldSg W) (.sl nl0 e0.length (P.sms e0) .unk) (.slice a0 len0 cap0) := hr0.2 0 _ _ rfl rfl
  obtain ⟨a1, len1, cap1, rfl⟩ := okWide_slice Tryz.underlying23 (hval 1 23 v1 rfl rfl)
  have k1 := h1
  have lt1 : ∀ x ∈ p1, x.block < W.heap.size := by obtain ⟨m, hm⟩ := k1; exact DataW.trod_lt m _ _ _ hm
  obtain ⟨fuel1, hf1⟩ := h1
  obtain ⟨xs1, hh1, hr1⟩ := trod_has (P := Tryz.prog) 5 fuel1 23 _ _ _ (by kernel_rfl : tyOf Tryz.prog 5 23 = some (.sl (.st [.int .i64, .int .i64]))) hf1
  obtain ⟨nl1, e1, rfl⟩ := has_prs hh1
  have hq1 : VRel (oldSg W) (.sl nl1 e1.length (prs e1) .unk) (.slice a1 len1 cap1) := hr1.2 0 _ _ rfl rfl
  obtain ⟨a2, len2, cap2, rfl⟩ := okWide_slice Tryz.underlying24 (hval 2 24 v2 rfl rfl)
  have k2 := h2
  have lt2 : ∀ x ∈ p2, x.block < W.heap.size := by obtain ⟨m, hm⟩ := k2; exact DataW.trod_lt m _ _ _ hm
  obtain ⟨fuel2, hf2⟩ := h2
  obtain ⟨xs2, hh2, hr2⟩ := trod_has (P := Tryz.prog) 5 fuel2 24 _ _ _ (by kernel_rfl : tyOf Tryz.prog 5 24 = some (.sl (.int .u8))) hf2
  obtain ⟨nl2, e2, rfl⟩ := has_u8s hh2
  have hq2 : VRel (oldSg W) (.sl nl2 e2.length (u8s e2) .unk) (.slice a2 len2 cap2) := hr2.2 0 _ _ rfl rfl
  clear hA0 hval0
  refine (walk W _ nl0 e0 hq0 _ nl1 e1 hq1 _ nl2 e2 hq2).mono fun r W' ⟨he, bel⟩ => ?_
  subst he
  exact ⟨_, rfl, _, _, _, [], _, [], hW', trodAll_mk1 (shut_bool Tryz.underlying4 _), (trodAll_cons_mk (Below.trod laidOut (by kernel_rfl) (of_decide_eq_true (by kernel_rfl)) k0 bel lt0) (trodAll_cons_mk (Below.trod laidOut (by kernel_rfl) (of_decide_eq_true (by kernel_rfl)) k1 bel lt1) (trodAll_cons_mk (Below.trod laidOut (by kernel_rfl) (of_decide_eq_true (by kernel_rfl)) k2 bel lt2) trodAll_mk0))), rfl, bel.frame _, fun h => by cases h⟩

theorem over : Rows.wholeContradictionRow.holds Tryz.pinned (OpenSpec.ofChange Rows.wholeContradictionSpec) :=
  OpenClaim.holds_of_wide 3 Tryz.f3 rfl rfl rfl rfl rfl rfl rfl ⟨rfl, rfl, rfl, rfl, rfl⟩ rfl rfl rfl rfl rfl (by kernel_rfl) Tryz.func3 (by kernel_rfl)
    (of_decide_eq_true (by kernel_rfl)) (by unfold Func.isWrapper; first | (rw [if_pos (by decide +kernel)]; kernel_rfl) | (rw [if_neg (by decide +kernel)]; exact ⟨rfl, rfl⟩))
    (fun os started H enc _ => lifted os started H enc)

theorem proved : Rows.WholeContradictionSaid := over
end Go.Proofs.YtidmekdkfiljjaaGreat.wholeContradictionDone
#print axioms Go.Proofs.YtidmekdkfiljjaaGreat.wholeContradictionDone.proved
