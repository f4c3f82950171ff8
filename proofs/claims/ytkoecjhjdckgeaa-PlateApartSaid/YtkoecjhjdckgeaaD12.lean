/- The law PlateApart. No condition. -/
import Derived.Test.YtkoecjhjdckgeaaD10
import Derived.Test.YtkoecjhjdckgeaaE5
namespace Go.Proofs.Ytkoecjhjdckgeaa
open Go Go.Abs
set_option linter.unusedSimpArgs false
set_option linter.unusedVariables false
set_option maxRecDepth 20000

theorem inR16 (n : Int) : InR .i16 n ↔ -32768 ≤ n ∧ n ≤ 32767 := by simp [InR, IntKind.min, IntKind.max, IntKind.signed, IntKind.bits]
/-- What a check that finds nothing wrong says of two items. -/
theorem apart {a b : It} {p : It} {x0 y0 x1 y1 : Int} (h : ckQ [a, b] p [(a.1, 0, x0, y0), (b.1, 0, x1, y1)] = 0) :
    pgOK p ∧ smI a ∧ smI b ∧ (p.2.2 ≤ max (x0 - (x1 + b.2.1)) (x1 - (x0 + a.2.1)) ∨ p.2.2 ≤ max (y0 - (y1 + b.2.2)) (y1 - (y0 + a.2.2))) ∧ (0 ≤ x0 ∧ x0 ≤ 400) ∧ (0 ≤ y0 ∧ y0 ≤ 400) ∧ (0 ≤ x1 ∧ x1 ≤ 400) ∧ 0 ≤ y1 ∧ y1 ≤ 400 := by
  obtain ⟨h1, _, h3, h4, h5⟩ := ckQ_inv h
  obtain ⟨h6, gp⟩ := gvQ_ok h1
  obtain ⟨_, h7⟩ := itQ_ok h6
  have i0 := h7 0 (by simp)
  have i1 := h7 1 (by simp)
  have s0 : smI a := smI_of i0
  have s1 : smI b := smI_of i1
  have f0 : fnd [a, b] a.1 = a := by simp [fnd]
  have f1 : fnd [a, b] b.1 = b := by
    have := i1.2.2.2 0 (by omega)
    simp at this
    simp [fnd, this]
  have g0 := h4 0 (by simp)
  have g1 := h4 1 (by simp)
  have e0 := good_b (x := (a.1, 0, x0, y0)) gp (by simp only; rw [f0]; exact s0) g0
  have e1 := good_b (x := (b.1, 0, x1, y1)) gp (by simp only; rw [f1]; exact s1) g1
  have c : ¬ ((0 : Int) = 0 ∧ nr x1 (fnd [a, b] b.1).2.1 x0 (fnd [a, b] a.1).2.1 p.2.2 ∧ nr y1 (fnd [a, b] b.1).2.2 y0 (fnd [a, b] a.1).2.2 p.2.2) := h5 1 (by simp) 0 (by omega)
  rw [f0, f1] at c
  unfold nr at c
  simp only at e0 e1
  refine ⟨gp, s0, s1, ?_, e0.1, e0.2, e1.1, e1.2⟩
  omega

set_option maxHeartbeats 2000000 in
theorem r_law_PlateApart (a b : It) (z : Int × Int × Int × Int × Int) (h : AH) : RCall Try.prog n_law_PlateApart [i3 a, i3 b, .st (a5c z)] h (.bool true) := by
  refine RCall.of hm cF_law_PlateApart (by simp [g_law_PlateApart]) fun hw h' hl => ?_
  have ha := hw _ (.tail _ (.tail _ (.head _)))
  have z0 := (inR16 _).1 (wf_int (n := 1) (ha.2 (.int .i16 z.1) (by simp [AV.subs, a5c])))
  have z1 := (inR16 _).1 (wf_int (n := 1) (ha.2 (.int .i16 z.2.1) (by simp [AV.subs, a5c])))
  have z2 := (inR16 _).1 (wf_int (n := 1) (ha.2 (.int .i16 z.2.2.1) (by simp [AV.subs, a5c])))
  have z3 := (inR16 _).1 (wf_int (n := 1) (ha.2 (.int .i16 z.2.2.2.1) (by simp [AV.subs, a5c])))
  have z4 := (inR16 _).1 (wf_int (n := 1) (ha.2 (.int .i16 z.2.2.2.2) (by simp [AV.subs, a5c])))
  have w0 : IntKind.wrap .i64 z.1 = z.1 := wrap_in (by rw [inR64]; omega)
  have w1 : IntKind.wrap .i64 z.2.1 = z.2.1 := wrap_in (by rw [inR64]; omega)
  have w2 : IntKind.wrap .i64 z.2.2.1 = z.2.2.1 := wrap_in (by rw [inR64]; omega)
  have w3 : IntKind.wrap .i64 z.2.2.2.1 = z.2.2.2.1 := wrap_in (by rw [inR64]; omega)
  have w4 : IntKind.wrap .i64 z.2.2.2.2 = z.2.2.2.2 := wrap_in (by rw [inR64]; omega)
  simp only [a5c, F_law_PlateApart, g_law_PlateApart, go_sem, reduceIte, Nat.reduceEqDiff, Nat.reduceAdd, Nat.reduceMul, Nat.reduceSub, reduceCtorEq, Nat.reduceLeDiff, Nat.reduceLT, Int.reduceLT, Int.reduceLE, Int.reduceToNat, Int.reduceAdd, Int.reduceSub, Int.reduceNeg, Int.reduceMul, Int.reduceEq, ← Bool.decide_and, ← Bool.decide_or, ↓tq_n, ↓tq_e, ↓tq_r, ↓bq_n, ↓bq_e, ↓bq_r, ↓rq_n, ↓rq_r, ↓rq_e]
  refine CallG.mk (r_law_awake _) ?_
  simp only [w0, w1, w2, w3, w4, List.drop_succ_cons, List.drop_zero, F_law_PlateApart, g_law_PlateApart, go_sem, reduceIte, Nat.reduceEqDiff, Nat.reduceAdd, Nat.reduceMul, Nat.reduceSub, reduceCtorEq, Nat.reduceLeDiff, Nat.reduceLT, Int.reduceLT, Int.reduceLE, Int.reduceToNat, Int.reduceAdd, Int.reduceSub, Int.reduceNeg, Int.reduceMul, Int.reduceEq, ← Bool.decide_and, ← Bool.decide_or, ↓tq_n, ↓tq_e, ↓tq_r, ↓bq_n, ↓bq_e, ↓bq_r, ↓rq_n, ↓rq_r, ↓rq_e]
  have j0 : (0 : Int) < ((5 : Nat) : Int) := by omega
  have j1 : (1 : Int) < ((5 : Nat) : Int) := by omega
  have j2 : (2 : Int) < ((5 : Nat) : Int) := by omega
  have j3 : (3 : Int) < ((5 : Nat) : Int) := by omega
  refine ⟨by omega, CallG.mk (r_base_Mod z.2.2.2.2 11 _ ⟨by omega, by omega⟩) ?_⟩
  have t1 := Int.tmod_lt_of_pos z.2.2.2.2 (show (0 : Int) < 11 by omega)
  have t2 : -11 < z.2.2.2.2.tmod 11 := by have := Int.lt_tmod_of_pos z.2.2.2.2 (show (0 : Int) < 11 by omega); omega
  obtain ⟨m, hmm⟩ : ∃ m, m = if z.2.2.2.2.tmod 11 < 0 then z.2.2.2.2.tmod 11 + 11 else z.2.2.2.2.tmod 11 := ⟨_, rfl⟩
  rw [← hmm]
  simp only [j0, j1, j2, j3, w0, w1, w2, w3, w4, List.drop_succ_cons, List.drop_zero, F_law_PlateApart, g_law_PlateApart, go_sem, reduceIte, Nat.reduceEqDiff, Nat.reduceAdd, Nat.reduceMul, Nat.reduceSub, reduceCtorEq, Nat.reduceLeDiff, Nat.reduceLT, Int.reduceLT, Int.reduceLE, Int.reduceToNat, Int.reduceAdd, Int.reduceSub, Int.reduceNeg, Int.reduceMul, Int.reduceEq, ← Bool.decide_and, ← Bool.decide_or, ↓tq_n, ↓tq_e, ↓tq_r, ↓bq_n, ↓bq_e, ↓bq_r, ↓rq_n, ↓rq_r, ↓rq_e]
  refine CallG.mk (r_plate_Check false [a, b] .full (400, 400, m) false [(a.1, 0, z.1, z.2.1), (b.1, 0, z.2.2.1, z.2.2.2.1)] .full _) ?_
  by_cases hc : ckQ [a, b] (400, 400, m) [(a.1, 0, z.1, z.2.1), (b.1, 0, z.2.2.1, z.2.2.2.1)] = 0
  case neg =>
    simp only [hc, F_law_PlateApart, g_law_PlateApart, go_sem, reduceIte, Nat.reduceEqDiff, Nat.reduceAdd, Nat.reduceMul, Nat.reduceSub, reduceCtorEq, Nat.reduceLeDiff, Nat.reduceLT, Int.reduceLT, Int.reduceLE, Int.reduceToNat, Int.reduceAdd, Int.reduceSub, Int.reduceNeg, Int.reduceMul, Int.reduceEq, ← Bool.decide_and, ← Bool.decide_or, ↓tq_n, ↓tq_e, ↓tq_r, ↓bq_n, ↓bq_e, ↓bq_r, ↓rq_n, ↓rq_r, ↓rq_e]
    exact ret_ok rfl
  obtain ⟨gp, s0, s1, ap, x0, y0, x1, y1⟩ := apart hc
  unfold smI at s0 s1
  simp only at ap
  simp only [hc, List.drop_succ_cons, List.drop_zero, F_law_PlateApart, g_law_PlateApart, go_sem, reduceIte, Nat.reduceEqDiff, Nat.reduceAdd, Nat.reduceMul, Nat.reduceSub, reduceCtorEq, Nat.reduceLeDiff, Nat.reduceLT, Int.reduceLT, Int.reduceLE, Int.reduceToNat, Int.reduceAdd, Int.reduceSub, Int.reduceNeg, Int.reduceMul, Int.reduceEq, ← Bool.decide_and, ← Bool.decide_or, ↓tq_n, ↓tq_e, ↓tq_r, ↓bq_n, ↓bq_e, ↓bq_r, ↓rq_n, ↓rq_r, ↓rq_e]
  repeat' first
    | refine ⟨by first | omega | (rw [inR64]; omega), ?_⟩
    | refine ⟨fun _ => ?_, fun k => ?_⟩
    | exact ret_ok rfl
    | exact ret_ok (by rw [decide_eq_true (ap.resolve_left k)])
end Go.Proofs.Ytkoecjhjdckgeaa
