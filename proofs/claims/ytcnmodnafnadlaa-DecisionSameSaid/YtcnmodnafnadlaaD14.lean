/- The statement DecisionSame as a call. No condition. -/
import Derived.Test.YtcnmodnafnadlaaZJ
namespace Go.Proofs.Ytcnmodnafnadlaa
open Go Go.Abs
set_option linter.unusedSimpArgs false
set_option linter.unusedVariables false
set_option maxRecDepth 20000

/-- Calls of no ledger. -/
theorem s_Make_nil (d : Dec) (h : AH) : ACalls Try.prog n_decision_Ledger_Make [.nilp, stD d] h fun r g => r = I 1 ∧ g = h := by
  refine ACalls.of hm cF_decision_Ledger_Make (by simp [g_decision_Ledger_Make]) fun hw => ?_
  simp only [Dec.cs, F_decision_Ledger_Make, g_decision_Ledger_Make, go_sem, reduceIte, Nat.reduceEqDiff, Nat.reduceAdd, Nat.reduceMul, Nat.reduceSub, reduceCtorEq, Nat.reduceLeDiff, Nat.reduceLT, Int.reduceLT, Int.reduceLE, Int.reduceToNat, Int.reduceAdd, Int.reduceSub, Int.reduceNeg, Int.reduceMul, Int.reduceEq, ← Bool.decide_and, ← Bool.decide_or, ↓tq_n, ↓tq_e, ↓tq_r, ↓bq_n, ↓bq_e, ↓bq_r, ↓rq_n, ↓rq_r, ↓rq_e]
  exact ⟨_, _, RGh.refl _ _, rfl, rfl⟩
theorem s_Withdraw_nil (m : Int × Int) (h : AH) : ACalls Try.prog n_decision_Ledger_Withdraw [.nilp, stM m] h fun r g => r = I 1 ∧ g = h := by
  refine ACalls.of hm cF_decision_Ledger_Withdraw (by simp [g_decision_Ledger_Withdraw]) fun hw => ?_
  simp only [F_decision_Ledger_Withdraw, g_decision_Ledger_Withdraw, go_sem, reduceIte, Nat.reduceEqDiff, Nat.reduceAdd, Nat.reduceMul, Nat.reduceSub, reduceCtorEq, Nat.reduceLeDiff, Nat.reduceLT, Int.reduceLT, Int.reduceLE, Int.reduceToNat, Int.reduceAdd, Int.reduceSub, Int.reduceNeg, Int.reduceMul, Int.reduceEq, ← Bool.decide_and, ← Bool.decide_or, ↓tq_n, ↓tq_e, ↓tq_r, ↓bq_n, ↓bq_e, ↓bq_r, ↓rq_n, ↓rq_r, ↓rq_e]
  exact ⟨_, _, RGh.refl _ _, rfl, rfl⟩
theorem s_MadeW_nil (h : AH) : ACalls Try.prog n_decision_Ledger_MadeW [.nilp] h fun r g => r = .sl true 0 [] .full ∧ g = h := by
  refine ACalls.of hm cF_decision_Ledger_MadeW (by simp [g_decision_Ledger_MadeW]) fun hw => ?_
  simp only [F_decision_Ledger_MadeW, g_decision_Ledger_MadeW, go_sem, reduceIte, Nat.reduceEqDiff, Nat.reduceAdd, Nat.reduceMul, Nat.reduceSub, reduceCtorEq, Nat.reduceLeDiff, Nat.reduceLT, Int.reduceLT, Int.reduceLE, Int.reduceToNat, Int.reduceAdd, Int.reduceSub, Int.reduceNeg, Int.reduceMul, Int.reduceEq, ← Bool.decide_and, ← Bool.decide_or, ↓tq_n, ↓tq_e, ↓tq_r, ↓bq_n, ↓bq_e, ↓bq_r, ↓rq_n, ↓rq_r, ↓rq_e]
  exact ⟨_, _, RGh.refl _ _, rfl, rfl⟩
theorem s_DeleteFunc_nil (f : FuncId) (caps : List AV) (h : AH) :
    ACalls Try.prog n_slices_DeleteFunc_Decision [.sl true 0 [] .full, .fn f caps] h fun r g => r = .sl true 0 [] .full ∧ g = h := by
  refine ACalls.of hm cF_slices_DeleteFunc_Decision (by simp [g_slices_DeleteFunc_Decision]) fun hw => ?_
  simp only [F_slices_DeleteFunc_Decision, g_slices_DeleteFunc_Decision, go_sem, reduceIte, Nat.reduceEqDiff, Nat.reduceAdd, Nat.reduceMul, Nat.reduceSub, reduceCtorEq, Nat.reduceLeDiff, Nat.reduceLT, Int.reduceLT, Int.reduceLE, Int.reduceToNat, Int.reduceAdd, Int.reduceSub, Int.reduceNeg, Int.reduceMul, Int.reduceEq, ← Bool.decide_and, ← Bool.decide_or, ↓tq_n, ↓tq_e, ↓tq_r, ↓bq_n, ↓bq_e, ↓bq_r, ↓rq_n, ↓rq_r, ↓rq_e]
  refine CallG.mk (r_slices_IndexFunc_nil true .full f caps _) ?_
  simp only [F_slices_DeleteFunc_Decision, g_slices_DeleteFunc_Decision, go_sem, reduceIte, Nat.reduceEqDiff, Nat.reduceAdd, Nat.reduceMul, Nat.reduceSub, reduceCtorEq, Nat.reduceLeDiff, Nat.reduceLT, Int.reduceLT, Int.reduceLE, Int.reduceToNat, Int.reduceAdd, Int.reduceSub, Int.reduceNeg, Int.reduceMul, Int.reduceEq, ← Bool.decide_and, ← Bool.decide_or, ↓tq_n, ↓tq_e, ↓tq_r, ↓bq_n, ↓bq_e, ↓bq_r, ↓rq_n, ↓rq_r, ↓rq_e]
  exact ⟨_, _, .refl _ _, rfl, rfl⟩
theorem s_Standing_nil (h : AH) : ACalls Try.prog n_decision_Ledger_StandingW [.nilp] h fun r g => r = .sl true 0 [] .full ∧ g = h := by
  refine ACalls.of hm cF_decision_Ledger_StandingW (by simp [g_decision_Ledger_StandingW]) fun hw => ?_
  simp only [F_decision_Ledger_StandingW, g_decision_Ledger_StandingW, go_sem, reduceIte, Nat.reduceEqDiff, Nat.reduceAdd, Nat.reduceMul, Nat.reduceSub, reduceCtorEq, Nat.reduceLeDiff, Nat.reduceLT, Int.reduceLT, Int.reduceLE, Int.reduceToNat, Int.reduceAdd, Int.reduceSub, Int.reduceNeg, Int.reduceMul, Int.reduceEq, ← Bool.decide_and, ← Bool.decide_or, ↓tq_n, ↓tq_e, ↓tq_r, ↓bq_n, ↓bq_e, ↓bq_r, ↓rq_n, ↓rq_r, ↓rq_e]
  refine CallS.mk (s_MadeW_nil _) fun r H' hr => ?_
  obtain ⟨rfl, rfl⟩ := hr
  simp only [F_decision_Ledger_StandingW, g_decision_Ledger_StandingW, go_sem, reduceIte, Nat.reduceEqDiff, Nat.reduceAdd, Nat.reduceMul, Nat.reduceSub, reduceCtorEq, Nat.reduceLeDiff, Nat.reduceLT, Int.reduceLT, Int.reduceLE, Int.reduceToNat, Int.reduceAdd, Int.reduceSub, Int.reduceNeg, Int.reduceMul, Int.reduceEq, ← Bool.decide_and, ← Bool.decide_or, ↓tq_n, ↓tq_e, ↓tq_r, ↓bq_n, ↓bq_e, ↓bq_r, ↓rq_n, ↓rq_r, ↓rq_e]
  refine CallS.mk (s_DeleteFunc_nil 49 [.sptr [.nilp]] _) fun r H' hr => ?_
  obtain ⟨rfl, rfl⟩ := hr
  simp only [F_decision_Ledger_StandingW, g_decision_Ledger_StandingW, go_sem, reduceIte, Nat.reduceEqDiff, Nat.reduceAdd, Nat.reduceMul, Nat.reduceSub, reduceCtorEq, Nat.reduceLeDiff, Nat.reduceLT, Int.reduceLT, Int.reduceLE, Int.reduceToNat, Int.reduceAdd, Int.reduceSub, Int.reduceNeg, Int.reduceMul, Int.reduceEq, ← Bool.decide_and, ← Bool.decide_or, ↓tq_n, ↓tq_e, ↓tq_r, ↓bq_n, ↓bq_e, ↓bq_r, ↓rq_n, ↓rq_r, ↓rq_e]
  exact ⟨_, _, RGh.refl _ _, rfl, rfl⟩
def emS (s : St) : Bool := decide (srtD s.1 = []) && decide (srtM s.2 = [])
theorem r_Same_nil1 (la a1 a2 : Nat) (s : St) (ok : OKs s) (h : AH) (k : Led h la a1 a2 s) : RCall Try.prog n_decision_Ledger_Same [.nilp, .ptr la 0] h (.bool (emS s)) := by
  refine RCall.of hm cF_decision_Ledger_Same (by simp [g_decision_Ledger_Same]) fun hw h' hl => ?_
  have k := k.mono hl
  simp only [F_decision_Ledger_Same, g_decision_Ledger_Same, go_sem, reduceIte, Nat.reduceEqDiff, Nat.reduceAdd, Nat.reduceMul, Nat.reduceSub, reduceCtorEq, Nat.reduceLeDiff, Nat.reduceLT, Int.reduceLT, Int.reduceLE, Int.reduceToNat, Int.reduceAdd, Int.reduceSub, Int.reduceNeg, Int.reduceMul, Int.reduceEq, ← Bool.decide_and, ← Bool.decide_or, ↓tq_n, ↓tq_e, ↓tq_r, ↓bq_n, ↓bq_e, ↓bq_r, ↓rq_n, ↓rq_r, ↓rq_e]
  refine CallG.mk (r_Made_nil _) ?_
  simp only [F_decision_Ledger_Same, g_decision_Ledger_Same, go_sem, reduceIte, Nat.reduceEqDiff, Nat.reduceAdd, Nat.reduceMul, Nat.reduceSub, reduceCtorEq, Nat.reduceLeDiff, Nat.reduceLT, Int.reduceLT, Int.reduceLE, Int.reduceToNat, Int.reduceAdd, Int.reduceSub, Int.reduceNeg, Int.reduceMul, Int.reduceEq, ← Bool.decide_and, ← Bool.decide_or, ↓tq_n, ↓tq_e, ↓tq_r, ↓bq_n, ↓bq_e, ↓bq_r, ↓rq_n, ↓rq_r, ↓rq_e]
  refine CallG.mk (r_decision_Ledger_Made la a1 a2 s ok _ k) ?_
  simp only [lsD, F_decision_Ledger_Same, g_decision_Ledger_Same, go_sem, reduceIte, Nat.reduceEqDiff, Nat.reduceAdd, Nat.reduceMul, Nat.reduceSub, reduceCtorEq, Nat.reduceLeDiff, Nat.reduceLT, Int.reduceLT, Int.reduceLE, Int.reduceToNat, Int.reduceAdd, Int.reduceSub, Int.reduceNeg, Int.reduceMul, Int.reduceEq, ← Bool.decide_and, ← Bool.decide_or, ↓tq_n, ↓tq_e, ↓tq_r, ↓bq_n, ↓bq_e, ↓bq_r, ↓rq_n, ↓rq_r, ↓rq_e]
  refine CallG.mk (r_slices_Equal_Decision true [] .full _ (srtD s.1) _ _) ?_
  by_cases c1 : [] = srtD s.1
  case neg =>
    rw [decide_eq_false c1]
    simp only [F_decision_Ledger_Same, g_decision_Ledger_Same, go_sem, reduceIte, Nat.reduceEqDiff, Nat.reduceAdd, Nat.reduceMul, Nat.reduceSub, reduceCtorEq, Nat.reduceLeDiff, Nat.reduceLT, Int.reduceLT, Int.reduceLE, Int.reduceToNat, Int.reduceAdd, Int.reduceSub, Int.reduceNeg, Int.reduceMul, Int.reduceEq, ← Bool.decide_and, ← Bool.decide_or, ↓tq_n, ↓tq_e, ↓tq_r, ↓bq_n, ↓bq_e, ↓bq_r, ↓rq_n, ↓rq_r, ↓rq_e]
    exact ret_ok (by unfold emS; rw [decide_eq_false (Ne.symm c1)]; rfl)
  rw [decide_eq_true c1]
  simp only [F_decision_Ledger_Same, g_decision_Ledger_Same, go_sem, reduceIte, Nat.reduceEqDiff, Nat.reduceAdd, Nat.reduceMul, Nat.reduceSub, reduceCtorEq, Nat.reduceLeDiff, Nat.reduceLT, Int.reduceLT, Int.reduceLE, Int.reduceToNat, Int.reduceAdd, Int.reduceSub, Int.reduceNeg, Int.reduceMul, Int.reduceEq, ← Bool.decide_and, ← Bool.decide_or, ↓tq_n, ↓tq_e, ↓tq_r, ↓bq_n, ↓bq_e, ↓bq_r, ↓rq_n, ↓rq_r, ↓rq_e]
  refine CallG.mk (r_Withdrawn_nil _) ?_
  simp only [F_decision_Ledger_Same, g_decision_Ledger_Same, go_sem, reduceIte, Nat.reduceEqDiff, Nat.reduceAdd, Nat.reduceMul, Nat.reduceSub, reduceCtorEq, Nat.reduceLeDiff, Nat.reduceLT, Int.reduceLT, Int.reduceLE, Int.reduceToNat, Int.reduceAdd, Int.reduceSub, Int.reduceNeg, Int.reduceMul, Int.reduceEq, ← Bool.decide_and, ← Bool.decide_or, ↓tq_n, ↓tq_e, ↓tq_r, ↓bq_n, ↓bq_e, ↓bq_r, ↓rq_n, ↓rq_r, ↓rq_e]
  refine CallG.mk (r_decision_Ledger_Withdrawn la a1 a2 s ok _ k) ?_
  simp only [lsM, F_decision_Ledger_Same, g_decision_Ledger_Same, go_sem, reduceIte, Nat.reduceEqDiff, Nat.reduceAdd, Nat.reduceMul, Nat.reduceSub, reduceCtorEq, Nat.reduceLeDiff, Nat.reduceLT, Int.reduceLT, Int.reduceLE, Int.reduceToNat, Int.reduceAdd, Int.reduceSub, Int.reduceNeg, Int.reduceMul, Int.reduceEq, ← Bool.decide_and, ← Bool.decide_or, ↓tq_n, ↓tq_e, ↓tq_r, ↓bq_n, ↓bq_e, ↓bq_r, ↓rq_n, ↓rq_r, ↓rq_e]
  refine CallG.mk (r_slices_Equal_Mark true [] .full _ (srtM s.2) _ _) ?_
  simp only [F_decision_Ledger_Same, g_decision_Ledger_Same, go_sem, reduceIte, Nat.reduceEqDiff, Nat.reduceAdd, Nat.reduceMul, Nat.reduceSub, reduceCtorEq, Nat.reduceLeDiff, Nat.reduceLT, Int.reduceLT, Int.reduceLE, Int.reduceToNat, Int.reduceAdd, Int.reduceSub, Int.reduceNeg, Int.reduceMul, Int.reduceEq, ← Bool.decide_and, ← Bool.decide_or, ↓tq_n, ↓tq_e, ↓tq_r, ↓bq_n, ↓bq_e, ↓bq_r, ↓rq_n, ↓rq_r, ↓rq_e]
  exact ret_ok (by unfold emS; rw [decide_eq_true c1.symm, Bool.true_and]; exact congrArg AV.bool (decide_eq_decide.2 eq_comm))
theorem r_Same_nil2 (la a1 a2 : Nat) (s : St) (ok : OKs s) (h : AH) (k : Led h la a1 a2 s) : RCall Try.prog n_decision_Ledger_Same [.ptr la 0, .nilp] h (.bool (emS s)) := by
  refine RCall.of hm cF_decision_Ledger_Same (by simp [g_decision_Ledger_Same]) fun hw h' hl => ?_
  have k := k.mono hl
  simp only [F_decision_Ledger_Same, g_decision_Ledger_Same, go_sem, reduceIte, Nat.reduceEqDiff, Nat.reduceAdd, Nat.reduceMul, Nat.reduceSub, reduceCtorEq, Nat.reduceLeDiff, Nat.reduceLT, Int.reduceLT, Int.reduceLE, Int.reduceToNat, Int.reduceAdd, Int.reduceSub, Int.reduceNeg, Int.reduceMul, Int.reduceEq, ← Bool.decide_and, ← Bool.decide_or, ↓tq_n, ↓tq_e, ↓tq_r, ↓bq_n, ↓bq_e, ↓bq_r, ↓rq_n, ↓rq_r, ↓rq_e]
  refine CallG.mk (r_decision_Ledger_Made la a1 a2 s ok _ k) ?_
  simp only [F_decision_Ledger_Same, g_decision_Ledger_Same, go_sem, reduceIte, Nat.reduceEqDiff, Nat.reduceAdd, Nat.reduceMul, Nat.reduceSub, reduceCtorEq, Nat.reduceLeDiff, Nat.reduceLT, Int.reduceLT, Int.reduceLE, Int.reduceToNat, Int.reduceAdd, Int.reduceSub, Int.reduceNeg, Int.reduceMul, Int.reduceEq, ← Bool.decide_and, ← Bool.decide_or, ↓tq_n, ↓tq_e, ↓tq_r, ↓bq_n, ↓bq_e, ↓bq_r, ↓rq_n, ↓rq_r, ↓rq_e]
  refine CallG.mk (r_Made_nil _) ?_
  simp only [lsD, F_decision_Ledger_Same, g_decision_Ledger_Same, go_sem, reduceIte, Nat.reduceEqDiff, Nat.reduceAdd, Nat.reduceMul, Nat.reduceSub, reduceCtorEq, Nat.reduceLeDiff, Nat.reduceLT, Int.reduceLT, Int.reduceLE, Int.reduceToNat, Int.reduceAdd, Int.reduceSub, Int.reduceNeg, Int.reduceMul, Int.reduceEq, ← Bool.decide_and, ← Bool.decide_or, ↓tq_n, ↓tq_e, ↓tq_r, ↓bq_n, ↓bq_e, ↓bq_r, ↓rq_n, ↓rq_r, ↓rq_e]
  refine CallG.mk (r_slices_Equal_Decision _ (srtD s.1) _ true [] .full _) ?_
  by_cases c1 : srtD s.1 = []
  case neg =>
    rw [decide_eq_false c1]
    simp only [F_decision_Ledger_Same, g_decision_Ledger_Same, go_sem, reduceIte, Nat.reduceEqDiff, Nat.reduceAdd, Nat.reduceMul, Nat.reduceSub, reduceCtorEq, Nat.reduceLeDiff, Nat.reduceLT, Int.reduceLT, Int.reduceLE, Int.reduceToNat, Int.reduceAdd, Int.reduceSub, Int.reduceNeg, Int.reduceMul, Int.reduceEq, ← Bool.decide_and, ← Bool.decide_or, ↓tq_n, ↓tq_e, ↓tq_r, ↓bq_n, ↓bq_e, ↓bq_r, ↓rq_n, ↓rq_r, ↓rq_e]
    exact ret_ok (by unfold emS; rw [decide_eq_false c1]; rfl)
  rw [decide_eq_true c1]
  simp only [F_decision_Ledger_Same, g_decision_Ledger_Same, go_sem, reduceIte, Nat.reduceEqDiff, Nat.reduceAdd, Nat.reduceMul, Nat.reduceSub, reduceCtorEq, Nat.reduceLeDiff, Nat.reduceLT, Int.reduceLT, Int.reduceLE, Int.reduceToNat, Int.reduceAdd, Int.reduceSub, Int.reduceNeg, Int.reduceMul, Int.reduceEq, ← Bool.decide_and, ← Bool.decide_or, ↓tq_n, ↓tq_e, ↓tq_r, ↓bq_n, ↓bq_e, ↓bq_r, ↓rq_n, ↓rq_r, ↓rq_e]
  refine CallG.mk (r_decision_Ledger_Withdrawn la a1 a2 s ok _ k) ?_
  simp only [F_decision_Ledger_Same, g_decision_Ledger_Same, go_sem, reduceIte, Nat.reduceEqDiff, Nat.reduceAdd, Nat.reduceMul, Nat.reduceSub, reduceCtorEq, Nat.reduceLeDiff, Nat.reduceLT, Int.reduceLT, Int.reduceLE, Int.reduceToNat, Int.reduceAdd, Int.reduceSub, Int.reduceNeg, Int.reduceMul, Int.reduceEq, ← Bool.decide_and, ← Bool.decide_or, ↓tq_n, ↓tq_e, ↓tq_r, ↓bq_n, ↓bq_e, ↓bq_r, ↓rq_n, ↓rq_r, ↓rq_e]
  refine CallG.mk (r_Withdrawn_nil _) ?_
  simp only [lsM, F_decision_Ledger_Same, g_decision_Ledger_Same, go_sem, reduceIte, Nat.reduceEqDiff, Nat.reduceAdd, Nat.reduceMul, Nat.reduceSub, reduceCtorEq, Nat.reduceLeDiff, Nat.reduceLT, Int.reduceLT, Int.reduceLE, Int.reduceToNat, Int.reduceAdd, Int.reduceSub, Int.reduceNeg, Int.reduceMul, Int.reduceEq, ← Bool.decide_and, ← Bool.decide_or, ↓tq_n, ↓tq_e, ↓tq_r, ↓bq_n, ↓bq_e, ↓bq_r, ↓rq_n, ↓rq_r, ↓rq_e]
  refine CallG.mk (r_slices_Equal_Mark _ (srtM s.2) _ true [] .full _) ?_
  simp only [F_decision_Ledger_Same, g_decision_Ledger_Same, go_sem, reduceIte, Nat.reduceEqDiff, Nat.reduceAdd, Nat.reduceMul, Nat.reduceSub, reduceCtorEq, Nat.reduceLeDiff, Nat.reduceLT, Int.reduceLT, Int.reduceLE, Int.reduceToNat, Int.reduceAdd, Int.reduceSub, Int.reduceNeg, Int.reduceMul, Int.reduceEq, ← Bool.decide_and, ← Bool.decide_or, ↓tq_n, ↓tq_e, ↓tq_r, ↓bq_n, ↓bq_e, ↓bq_r, ↓rq_n, ↓rq_r, ↓rq_e]
  exact ret_ok (by unfold emS; rw [decide_eq_true c1, Bool.true_and])
theorem ops_append (l m : List Op) : ops (l ++ m) = ops l ++ ops m := by simp [ops]
theorem Led.tok {h : AH} {lb b1 b2 : Nat} {s : St} (k : Led h lb b1 b2 s) (t n z : Nat) : Led (h.setTok t n z) lb b1 b2 s := ⟨k.blk, k.m1, k.m2, k.ne⟩
set_option maxHeartbeats 8000000 in
theorem r_law_DecisionSame (n1 : Bool) (l : List Op) (u1 : Tail) (n2 : Bool) (m : List Op) (u2 : Tail) (h : AH) : RCall Try.prog n_law_DecisionSame [.sl n1 l.length (ops l) u1, .sl n2 m.length (ops m) u2] h (.bool true) := by
  refine RCall.of hm cF_law_DecisionSame (by simp [g_law_DecisionSame]) fun hw h' hl => ?_
  simp only [F_law_DecisionSame, g_law_DecisionSame, go_sem, reduceIte, Nat.reduceEqDiff, Nat.reduceAdd, Nat.reduceMul, Nat.reduceSub, reduceCtorEq, Nat.reduceLeDiff, Nat.reduceLT, Int.reduceLT, Int.reduceLE, Int.reduceToNat, Int.reduceAdd, Int.reduceSub, Int.reduceNeg, Int.reduceMul, Int.reduceEq, ← Bool.decide_and, ← Bool.decide_or, ↓tq_n, ↓tq_e, ↓tq_r, ↓bq_n, ↓bq_e, ↓bq_r, ↓rq_n, ↓rq_r, ↓rq_e]
  refine CallG.mk (r_law_awake _) ?_
  simp only [F_law_DecisionSame, g_law_DecisionSame, go_sem, reduceIte, Nat.reduceEqDiff, Nat.reduceAdd, Nat.reduceMul, Nat.reduceSub, reduceCtorEq, Nat.reduceLeDiff, Nat.reduceLT, Int.reduceLT, Int.reduceLE, Int.reduceToNat, Int.reduceAdd, Int.reduceSub, Int.reduceNeg, Int.reduceMul, Int.reduceEq, ← Bool.decide_and, ← Bool.decide_or, ↓tq_n, ↓tq_e, ↓tq_r, ↓bq_n, ↓bq_e, ↓bq_r, ↓rq_n, ↓rq_r, ↓rq_e]
  refine CallG.mk (r_law_few n1 l u1 _) ?_
  by_cases hf1 : l.length ≤ 60
  case neg =>
    rw [decide_eq_false hf1]
    simp only [F_law_DecisionSame, g_law_DecisionSame, go_sem, reduceIte, Nat.reduceEqDiff, Nat.reduceAdd, Nat.reduceMul, Nat.reduceSub, reduceCtorEq, Nat.reduceLeDiff, Nat.reduceLT, Int.reduceLT, Int.reduceLE, Int.reduceToNat, Int.reduceAdd, Int.reduceSub, Int.reduceNeg, Int.reduceMul, Int.reduceEq, ← Bool.decide_and, ← Bool.decide_or, ↓tq_n, ↓tq_e, ↓tq_r, ↓bq_n, ↓bq_e, ↓bq_r, ↓rq_n, ↓rq_r, ↓rq_e]
    refine CallG.mk (r_law_awake _) ?_
    simp only [F_law_DecisionSame, g_law_DecisionSame, go_sem, reduceIte, Nat.reduceEqDiff, Nat.reduceAdd, Nat.reduceMul, Nat.reduceSub, reduceCtorEq, Nat.reduceLeDiff, Nat.reduceLT, Int.reduceLT, Int.reduceLE, Int.reduceToNat, Int.reduceAdd, Int.reduceSub, Int.reduceNeg, Int.reduceMul, Int.reduceEq, ← Bool.decide_and, ← Bool.decide_or, ↓tq_n, ↓tq_e, ↓tq_r, ↓bq_n, ↓bq_e, ↓bq_r, ↓rq_n, ↓rq_r, ↓rq_e]
    exact ret_ok rfl
  rw [decide_eq_true hf1]
  simp only [F_law_DecisionSame, g_law_DecisionSame, go_sem, reduceIte, Nat.reduceEqDiff, Nat.reduceAdd, Nat.reduceMul, Nat.reduceSub, reduceCtorEq, Nat.reduceLeDiff, Nat.reduceLT, Int.reduceLT, Int.reduceLE, Int.reduceToNat, Int.reduceAdd, Int.reduceSub, Int.reduceNeg, Int.reduceMul, Int.reduceEq, ← Bool.decide_and, ← Bool.decide_or, ↓tq_n, ↓tq_e, ↓tq_r, ↓bq_n, ↓bq_e, ↓bq_r, ↓rq_n, ↓rq_r, ↓rq_e]
  refine CallG.mk (r_law_few n2 m u2 _) ?_
  by_cases hf2 : m.length ≤ 60
  case neg =>
    rw [decide_eq_false hf2]
    simp only [F_law_DecisionSame, g_law_DecisionSame, go_sem, reduceIte, Nat.reduceEqDiff, Nat.reduceAdd, Nat.reduceMul, Nat.reduceSub, reduceCtorEq, Nat.reduceLeDiff, Nat.reduceLT, Int.reduceLT, Int.reduceLE, Int.reduceToNat, Int.reduceAdd, Int.reduceSub, Int.reduceNeg, Int.reduceMul, Int.reduceEq, ← Bool.decide_and, ← Bool.decide_or, ↓tq_n, ↓tq_e, ↓tq_r, ↓bq_n, ↓bq_e, ↓bq_r, ↓rq_n, ↓rq_r, ↓rq_e]
    refine CallG.mk (r_law_awake _) ?_
    simp only [F_law_DecisionSame, g_law_DecisionSame, go_sem, reduceIte, Nat.reduceEqDiff, Nat.reduceAdd, Nat.reduceMul, Nat.reduceSub, reduceCtorEq, Nat.reduceLeDiff, Nat.reduceLT, Int.reduceLT, Int.reduceLE, Int.reduceToNat, Int.reduceAdd, Int.reduceSub, Int.reduceNeg, Int.reduceMul, Int.reduceEq, ← Bool.decide_and, ← Bool.decide_or, ↓tq_n, ↓tq_e, ↓tq_r, ↓bq_n, ↓bq_e, ↓bq_r, ↓rq_n, ↓rq_r, ↓rq_e]
    exact ret_ok rfl
  rw [decide_eq_true hf2]
  obtain ⟨s, hs⟩ : ∃ s, s = runA s0 l := ⟨_, rfl⟩
  have oks : OKs s := hs ▸ runA_ok l ok0
  obtain ⟨t, ht⟩ : ∃ t, t = runA s0 m := ⟨_, rfl⟩
  have okt : OKs t := ht ▸ runA_ok m ok0
  simp only [F_law_DecisionSame, g_law_DecisionSame, go_sem, reduceIte, Nat.reduceEqDiff, Nat.reduceAdd, Nat.reduceMul, Nat.reduceSub, reduceCtorEq, Nat.reduceLeDiff, Nat.reduceLT, Int.reduceLT, Int.reduceLE, Int.reduceToNat, Int.reduceAdd, Int.reduceSub, Int.reduceNeg, Int.reduceMul, Int.reduceEq, ← Bool.decide_and, ← Bool.decide_or, ↓tq_n, ↓tq_e, ↓tq_r, ↓bq_n, ↓bq_e, ↓bq_r, ↓rq_n, ↓rq_r, ↓rq_e]
  refine CallS.mk (s_law_made2 n1 l u1 (by omega) _) fun r H' hr => ?_
  obtain ⟨la, a1, a2, k1, k2, k3, k4, rfl, rfl⟩ := hr
  rw [← hs]
  have La := Led.newL_self h' la k4 s
  have fa := k1
  have hle := le_newL (AH.le.refl h') fa k2 k3 s
  generalize newL h' la a1 a2 s = G1 at La hle ⊢
  clear k1 k2 k3 k4
  simp only [F_law_DecisionSame, g_law_DecisionSame, go_sem, reduceIte, Nat.reduceEqDiff, Nat.reduceAdd, Nat.reduceMul, Nat.reduceSub, reduceCtorEq, Nat.reduceLeDiff, Nat.reduceLT, Int.reduceLT, Int.reduceLE, Int.reduceToNat, Int.reduceAdd, Int.reduceSub, Int.reduceNeg, Int.reduceMul, Int.reduceEq, ← Bool.decide_and, ← Bool.decide_or, ↓tq_n, ↓tq_e, ↓tq_r, ↓bq_n, ↓bq_e, ↓bq_r, ↓rq_n, ↓rq_r, ↓rq_e]
  refine CallS.mk (s_law_made2 n2 m u2 (by omega) _) fun r H' hr => ?_
  obtain ⟨lb, b1, b2, k1, k2, k3, k4, rfl, rfl⟩ := hr
  rw [← ht]
  have nab := ne_of_blk La.blk k1
  replace La := La.newL_other nab k2 k3 t
  have Lb := Led.newL_self G1 lb k4 t
  have fb := le_none hle k1
  replace hle := le_newL hle fb k2 k3 t
  generalize newL G1 lb b1 b2 t = G2 at La Lb hle ⊢
  clear k1 k2 k3 k4
  simp only [F_law_DecisionSame, g_law_DecisionSame, go_sem, reduceIte, Nat.reduceEqDiff, Nat.reduceAdd, Nat.reduceMul, Nat.reduceSub, reduceCtorEq, Nat.reduceLeDiff, Nat.reduceLT, Int.reduceLT, Int.reduceLE, Int.reduceToNat, Int.reduceAdd, Int.reduceSub, Int.reduceNeg, Int.reduceMul, Int.reduceEq, ← Bool.decide_and, ← Bool.decide_or, ↓tq_n, ↓tq_e, ↓tq_r, ↓bq_n, ↓bq_e, ↓bq_r, ↓rq_n, ↓rq_r, ↓rq_e]
  refine CallS.mk (s_LClone la a1 a2 s _ La) fun r H' hr => ?_
  obtain ⟨lc, c1, c2, k1, k2, k3, k4, rfl, rfl⟩ := hr
  obtain ⟨x1, x3⟩ := La.map_ne k2
  obtain ⟨x2, x4⟩ := La.map_ne k3
  have fc1 := le_nonem hle k2
  have fc2 := le_nonem hle k3
  have nac := ne_of_blk La.blk k1
  replace La := La.newL_other nac k2 k3 s
  have nbc := ne_of_blk Lb.blk k1
  replace Lb := Lb.newL_other nbc k2 k3 s
  have Lc := Led.newL_self G2 lc k4 s
  have fc := le_none hle k1
  replace hle := le_newL hle fc k2 k3 s
  generalize newL G2 lc c1 c2 s = G3 at La Lb Lc hle ⊢
  clear k1 k2 k3 k4
  simp only [F_law_DecisionSame, g_law_DecisionSame, go_sem, reduceIte, Nat.reduceEqDiff, Nat.reduceAdd, Nat.reduceMul, Nat.reduceSub, reduceCtorEq, Nat.reduceLeDiff, Nat.reduceLT, Int.reduceLT, Int.reduceLE, Int.reduceToNat, Int.reduceAdd, Int.reduceSub, Int.reduceNeg, Int.reduceMul, Int.reduceEq, ← Bool.decide_and, ← Bool.decide_or, ↓tq_n, ↓tq_e, ↓tq_r, ↓bq_n, ↓bq_e, ↓bq_r, ↓rq_n, ↓rq_r, ↓rq_e]
  refine CallG.mk (r_decision_Ledger_Same lc c1 c2 la a1 a2 s s oks oks _ Lc La) ?_
  rw [decide_eq_true rfl]
  simp only [F_law_DecisionSame, g_law_DecisionSame, go_sem, reduceIte, Nat.reduceEqDiff, Nat.reduceAdd, Nat.reduceMul, Nat.reduceSub, reduceCtorEq, Nat.reduceLeDiff, Nat.reduceLT, Int.reduceLT, Int.reduceLE, Int.reduceToNat, Int.reduceAdd, Int.reduceSub, Int.reduceNeg, Int.reduceMul, Int.reduceEq, ← Bool.decide_and, ← Bool.decide_or, ↓tq_n, ↓tq_e, ↓tq_r, ↓bq_n, ↓bq_e, ↓bq_r, ↓rq_n, ↓rq_r, ↓rq_e]
  refine CallG.mk (r_decision_Ledger_Same la a1 a2 lb b1 b2 s t oks okt _ La Lb) ?_
  simp only [F_law_DecisionSame, g_law_DecisionSame, go_sem, reduceIte, Nat.reduceEqDiff, Nat.reduceAdd, Nat.reduceMul, Nat.reduceSub, reduceCtorEq, Nat.reduceLeDiff, Nat.reduceLT, Int.reduceLT, Int.reduceLE, Int.reduceToNat, Int.reduceAdd, Int.reduceSub, Int.reduceNeg, Int.reduceMul, Int.reduceEq, ← Bool.decide_and, ← Bool.decide_or, ↓tq_n, ↓tq_e, ↓tq_r, ↓bq_n, ↓bq_e, ↓bq_r, ↓rq_n, ↓rq_r, ↓rq_e]
  refine CallS.mk (s_law_model n1 l u1 (by omega) _) fun r H' hr => ?_
  obtain ⟨rp, qp, k1, rfl, rfl⟩ := hr
  rw [← hs]
  have mpa := (ne_of_blk La.blk k1).symm
  replace La := La.put' mpa (rbk qp (srS s))
  have mpb := (ne_of_blk Lb.blk k1).symm
  replace Lb := Lb.put' mpb (rbk qp (srS s))
  have mpc := (ne_of_blk Lc.blk k1).symm
  replace Lc := Lc.put' mpc (rbk qp (srS s))
  replace hle := AH.le_put (cs := rbk qp (srS s)) hle (le_none hle k1)
  have Rp := AH.blk_put G3 rp (rbk qp (srS s))
  generalize G3.put rp (rbk qp (srS s)) = G4 at La Lb Lc Rp hle ⊢
  clear k1
  simp only [F_law_DecisionSame, g_law_DecisionSame, go_sem, reduceIte, Nat.reduceEqDiff, Nat.reduceAdd, Nat.reduceMul, Nat.reduceSub, reduceCtorEq, Nat.reduceLeDiff, Nat.reduceLT, Int.reduceLT, Int.reduceLE, Int.reduceToNat, Int.reduceAdd, Int.reduceSub, Int.reduceNeg, Int.reduceMul, Int.reduceEq, ← Bool.decide_and, ← Bool.decide_or, ↓tq_n, ↓tq_e, ↓tq_r, ↓bq_n, ↓bq_e, ↓bq_r, ↓rq_n, ↓rq_r, ↓rq_e]
  refine CallS.mk (s_law_model n2 m u2 (by omega) _) fun r H' hr => ?_
  obtain ⟨rq, qq, k1, rfl, rfl⟩ := hr
  rw [← ht]
  have mqa := (ne_of_blk La.blk k1).symm
  replace La := La.put' mqa (rbk qq (srS t))
  have mqb := (ne_of_blk Lb.blk k1).symm
  replace Lb := Lb.put' mqb (rbk qq (srS t))
  have mqc := (ne_of_blk Lc.blk k1).symm
  replace Lc := Lc.put' mqc (rbk qq (srS t))
  have mpq := ne_of_blk Rp k1
  replace Rp := (AH.blk_put_ne _ (rbk qq (srS t)) mpq).trans Rp
  replace hle := AH.le_put (cs := rbk qq (srS t)) hle (le_none hle k1)
  have Rq := AH.blk_put G4 rq (rbk qq (srS t))
  generalize G4.put rq (rbk qq (srS t)) = G5 at La Lb Lc Rp Rq hle ⊢
  clear k1
  simp only [F_law_DecisionSame, g_law_DecisionSame, go_sem, reduceIte, Nat.reduceEqDiff, Nat.reduceAdd, Nat.reduceMul, Nat.reduceSub, reduceCtorEq, Nat.reduceLeDiff, Nat.reduceLT, Int.reduceLT, Int.reduceLE, Int.reduceToNat, Int.reduceAdd, Int.reduceSub, Int.reduceNeg, Int.reduceMul, Int.reduceEq, ← Bool.decide_and, ← Bool.decide_or, ↓tq_n, ↓tq_e, ↓tq_r, ↓bq_n, ↓bq_e, ↓bq_r, ↓rq_n, ↓rq_r, ↓rq_e]
  refine CallG.mk (r_ref_Ledger_Same rp rq qp qq (srS s) (srS t) _ Rp Rq) ?_
  simp only [F_law_DecisionSame, g_law_DecisionSame, go_sem, reduceIte, Nat.reduceEqDiff, Nat.reduceAdd, Nat.reduceMul, Nat.reduceSub, reduceCtorEq, Nat.reduceLeDiff, Nat.reduceLT, Int.reduceLT, Int.reduceLE, Int.reduceToNat, Int.reduceAdd, Int.reduceSub, Int.reduceNeg, Int.reduceMul, Int.reduceEq, ← Bool.decide_and, ← Bool.decide_or, ↓tq_n, ↓tq_e, ↓tq_r, ↓bq_n, ↓bq_e, ↓bq_r, ↓rq_n, ↓rq_r, ↓rq_e]
  refine CallG.mk (r_Same_nil1 la a1 a2 s oks _ La) ?_
  simp only [F_law_DecisionSame, g_law_DecisionSame, go_sem, reduceIte, Nat.reduceEqDiff, Nat.reduceAdd, Nat.reduceMul, Nat.reduceSub, reduceCtorEq, Nat.reduceLeDiff, Nat.reduceLT, Int.reduceLT, Int.reduceLE, Int.reduceToNat, Int.reduceAdd, Int.reduceSub, Int.reduceNeg, Int.reduceMul, Int.reduceEq, ← Bool.decide_and, ← Bool.decide_or, ↓tq_n, ↓tq_e, ↓tq_r, ↓bq_n, ↓bq_e, ↓bq_r, ↓rq_n, ↓rq_r, ↓rq_e]
  refine CallG.mk (r_Same_nil2 la a1 a2 s oks _ La) ?_
  simp only [F_law_DecisionSame, g_law_DecisionSame, go_sem, reduceIte, Nat.reduceEqDiff, Nat.reduceAdd, Nat.reduceMul, Nat.reduceSub, reduceCtorEq, Nat.reduceLeDiff, Nat.reduceLT, Int.reduceLT, Int.reduceLE, Int.reduceToNat, Int.reduceAdd, Int.reduceSub, Int.reduceNeg, Int.reduceMul, Int.reduceEq, ← Bool.decide_and, ← Bool.decide_or, ↓tq_n, ↓tq_e, ↓tq_r, ↓bq_n, ↓bq_e, ↓bq_r, ↓rq_n, ↓rq_r, ↓rq_e]
  refine CallG.mk (r_Same_nil1 la a1 a2 s oks _ La) ?_
  simp only [F_law_DecisionSame, g_law_DecisionSame, go_sem, reduceIte, Nat.reduceEqDiff, Nat.reduceAdd, Nat.reduceMul, Nat.reduceSub, reduceCtorEq, Nat.reduceLeDiff, Nat.reduceLT, Int.reduceLT, Int.reduceLE, Int.reduceToNat, Int.reduceAdd, Int.reduceSub, Int.reduceNeg, Int.reduceMul, Int.reduceEq, ← Bool.decide_and, ← Bool.decide_or, ↓tq_n, ↓tq_e, ↓tq_r, ↓bq_n, ↓bq_e, ↓bq_r, ↓rq_n, ↓rq_r, ↓rq_e]
  refine CallG.mk (r_decision_Ledger_Made la a1 a2 s oks _ La) ?_
  have hcase : (srtD s.1 = [] ∧ srtM s.2 = []) ∨ (srtD s.1 = [] ∧ ¬ srtM s.2 = []) ∨ ¬ srtD s.1 = [] := by
    by_cases c1 : srtD s.1 = []
    · by_cases c2 : srtM s.2 = []
      · exact .inl ⟨c1, c2⟩
      · exact .inr (.inl ⟨c1, c2⟩)
    · exact .inr (.inr c1)
  obtain ⟨e, he⟩ : ∃ e, e = emS s := ⟨_, rfl⟩
  have heq : (srtD s.1 = [] ∧ srtM s.2 = [] ∧ e = true) ∨ (srtD s.1 = [] ∧ ¬ srtM s.2 = [] ∧ e = false) ∨ (¬ srtD s.1 = [] ∧ e = false) := by
    rw [he]
    unfold emS
    by_cases z1 : srtD s.1 = []
    · by_cases z2 : srtM s.2 = []
      · exact .inl ⟨z1, z2, by rw [decide_eq_true z1, decide_eq_true z2]; rfl⟩
      · exact .inr (.inl ⟨z1, z2, by rw [decide_eq_true z1, decide_eq_false z2]; rfl⟩)
    · exact .inr (.inr ⟨z1, by rw [decide_eq_false z1]; rfl⟩)
  have lD : srtD s.1 = [] ↔ ((srtD s.1).length : Int) = 0 := by rw [← List.length_eq_zero_iff]; omega
  have lM : srtM s.2 = [] ↔ ((srtM s.2).length : Int) = 0 := by rw [← List.length_eq_zero_iff]; omega
  rw [← he]
  clear he
  rcases heq with ⟨z1, z2, rfl⟩ | ⟨z1, z2, rfl⟩ | ⟨z1, rfl⟩
  all_goals first
    | (have d1 := decide_eq_true (lD.1 z1)
       have d2 := decide_eq_true (lM.1 z2)
       simp only [lsD, d1, F_law_DecisionSame, g_law_DecisionSame, go_sem, reduceIte, Nat.reduceEqDiff, Nat.reduceAdd, Nat.reduceMul, Nat.reduceSub, reduceCtorEq, Nat.reduceLeDiff, Nat.reduceLT, Int.reduceLT, Int.reduceLE, Int.reduceToNat, Int.reduceAdd, Int.reduceSub, Int.reduceNeg, Int.reduceMul, Int.reduceEq, ← Bool.decide_and, ← Bool.decide_or, ↓tq_n, ↓tq_e, ↓tq_r, ↓bq_n, ↓bq_e, ↓bq_r, ↓rq_n, ↓rq_r, ↓rq_e]
       refine CallG.mk (r_decision_Ledger_Withdrawn la a1 a2 s oks _ La) ?_
       simp only [lsM, d2, F_law_DecisionSame, g_law_DecisionSame, go_sem, reduceIte, Nat.reduceEqDiff, Nat.reduceAdd, Nat.reduceMul, Nat.reduceSub, reduceCtorEq, Nat.reduceLeDiff, Nat.reduceLT, Int.reduceLT, Int.reduceLE, Int.reduceToNat, Int.reduceAdd, Int.reduceSub, Int.reduceNeg, Int.reduceMul, Int.reduceEq, ← Bool.decide_and, ← Bool.decide_or, ↓tq_n, ↓tq_e, ↓tq_r, ↓bq_n, ↓bq_e, ↓bq_r, ↓rq_n, ↓rq_r, ↓rq_e]
       clear d2)
    | (have d1 := decide_eq_true (lD.1 z1)
       have d2 := decide_eq_false (fun hh => z2 (lM.2 hh))
       simp only [lsD, d1, F_law_DecisionSame, g_law_DecisionSame, go_sem, reduceIte, Nat.reduceEqDiff, Nat.reduceAdd, Nat.reduceMul, Nat.reduceSub, reduceCtorEq, Nat.reduceLeDiff, Nat.reduceLT, Int.reduceLT, Int.reduceLE, Int.reduceToNat, Int.reduceAdd, Int.reduceSub, Int.reduceNeg, Int.reduceMul, Int.reduceEq, ← Bool.decide_and, ← Bool.decide_or, ↓tq_n, ↓tq_e, ↓tq_r, ↓bq_n, ↓bq_e, ↓bq_r, ↓rq_n, ↓rq_r, ↓rq_e]
       refine CallG.mk (r_decision_Ledger_Withdrawn la a1 a2 s oks _ La) ?_
       simp only [lsM, d2, F_law_DecisionSame, g_law_DecisionSame, go_sem, reduceIte, Nat.reduceEqDiff, Nat.reduceAdd, Nat.reduceMul, Nat.reduceSub, reduceCtorEq, Nat.reduceLeDiff, Nat.reduceLT, Int.reduceLT, Int.reduceLE, Int.reduceToNat, Int.reduceAdd, Int.reduceSub, Int.reduceNeg, Int.reduceMul, Int.reduceEq, ← Bool.decide_and, ← Bool.decide_or, ↓tq_n, ↓tq_e, ↓tq_r, ↓bq_n, ↓bq_e, ↓bq_r, ↓rq_n, ↓rq_r, ↓rq_e]
       clear d2)
    | (have d1 := decide_eq_false (fun hh => z1 (lD.2 hh))
       simp only [lsD, d1, F_law_DecisionSame, g_law_DecisionSame, go_sem, reduceIte, Nat.reduceEqDiff, Nat.reduceAdd, Nat.reduceMul, Nat.reduceSub, reduceCtorEq, Nat.reduceLeDiff, Nat.reduceLT, Int.reduceLT, Int.reduceLE, Int.reduceToNat, Int.reduceAdd, Int.reduceSub, Int.reduceNeg, Int.reduceMul, Int.reduceEq, ← Bool.decide_and, ← Bool.decide_or, ↓tq_n, ↓tq_e, ↓tq_r, ↓bq_n, ↓bq_e, ↓bq_r, ↓rq_n, ↓rq_r, ↓rq_e])
  all_goals
    clear lD lM
    replace hle := hle
    have hself := Lc.self
    have e0 : runA s (m.take 0) = s := by simp [runA]
    refine awp_loop (fun i : Nat => [(0, .sl n1 l.length (ops l) u1), (1, .sl n2 m.length (ops m) u2), (5, .nilp), (6, .ptr la 0), (10, .ptr lc 0), (11, I i)]) (fun i => setL G5 c1 c2 (runA s (m.take i))) (fun i => i ≤ m.length) (fun i => m.length - i) 0 (Nat.zero_le _) (by rw [e0, hself]; exact (GStep.forget (by repeat' first | exact EnvLe.nil _ | refine EnvLe.cons (AV.le.of_eq rfl) ?_ | refine EnvLe.cons (AV.le.undef _) ?_ | refine EnvLe.cons AV.le.unk ?_) (by repeat' first | exact AH.le.refl _ | assumption | (refine AH.le_put ?_ (by first | assumption | exact (AH.blk_put_ne _ _ (by assumption)).trans (by assumption) | exact AH.none_put (by assumption) | exact AH.none_put (AH.none_put (by assumption)) | (simp only [AH.blk_setTok, AH.tok_put] at *; first | assumption | exact AH.none_put (by assumption)))) | (refine AH.le_setTok ?_ (by first | assumption | exact (AH.blk_put_ne _ _ (by assumption)).trans (by assumption) | exact AH.none_put (by assumption) | exact AH.none_put (AH.none_put (by assumption)) | (simp only [AH.blk_setTok, AH.tok_put] at *; first | assumption | exact AH.none_put (by assumption)))) | (refine AH.le_putM ?_ (by first | assumption | exact (AH.mp_putM_ne _ _ (by assumption)).trans (by assumption) | (simp only [AH.mp_put, AH.mp_setTok] at *; assumption)))))) fun i hi => .of_vg hm ?_
    by_cases h3 : i < m.length
    · have hc : (i : Int) < (m.length : Int) := by omega
      have hok := runA_ok (m.take i) oks
      have hkk := Lc.set (runA s (m.take i))
      have hrt := runA_take s h3
      have hod := ops_drop h3
      obtain ⟨o, ho⟩ : ∃ o, o = m.getD i dO := ⟨_, rfl⟩
      rw [← ho] at hrt hod
      simp only [hc, hod, F_law_DecisionSame, g_law_DecisionSame, go_sem, reduceIte, Nat.reduceEqDiff, Nat.reduceAdd, Nat.reduceMul, Nat.reduceSub, reduceCtorEq, Nat.reduceLeDiff, Nat.reduceLT, Int.reduceLT, Int.reduceLE, Int.reduceToNat, Int.reduceAdd, Int.reduceSub, Int.reduceNeg, Int.reduceMul, Int.reduceEq, ← Bool.decide_and, ← Bool.decide_or, ↓tq_n, ↓tq_e, ↓tq_r, ↓bq_n, ↓bq_e, ↓bq_r, ↓rq_n, ↓rq_r, ↓rq_e]
      refine CallS.mk (r_law_do lc c1 c2 (runA s (m.take i)) o hok.few _ hkk) fun r H' hr => ?_
      obtain ⟨rfl, rfl⟩ := hr
      rw [setL_setL _ Lc.ne, ← hrt]
      simp only [F_law_DecisionSame, g_law_DecisionSame, go_sem, reduceIte, Nat.reduceEqDiff, Nat.reduceAdd, Nat.reduceMul, Nat.reduceSub, reduceCtorEq, Nat.reduceLeDiff, Nat.reduceLT, Int.reduceLT, Int.reduceLE, Int.reduceToNat, Int.reduceAdd, Int.reduceSub, Int.reduceNeg, Int.reduceMul, Int.reduceEq, ← Bool.decide_and, ← Bool.decide_or, ↓tq_n, ↓tq_e, ↓tq_r, ↓bq_n, ↓bq_e, ↓bq_r, ↓rq_n, ↓rq_r, ↓rq_e]
      exact ⟨by rw [inR64]; omega, i + 1, by omega, by omega, (GStep.forget (by repeat' first | exact EnvLe.nil _ | refine EnvLe.cons (AV.le.of_eq rfl) ?_ | refine EnvLe.cons (AV.le.undef _) ?_ | refine EnvLe.cons AV.le.unk ?_) (by repeat' first | exact AH.le.refl _ | assumption | (refine AH.le_put ?_ (by first | assumption | exact (AH.blk_put_ne _ _ (by assumption)).trans (by assumption) | exact AH.none_put (by assumption) | exact AH.none_put (AH.none_put (by assumption)) | (simp only [AH.blk_setTok, AH.tok_put] at *; first | assumption | exact AH.none_put (by assumption)))) | (refine AH.le_setTok ?_ (by first | assumption | exact (AH.blk_put_ne _ _ (by assumption)).trans (by assumption) | exact AH.none_put (by assumption) | exact AH.none_put (AH.none_put (by assumption)) | (simp only [AH.blk_setTok, AH.tok_put] at *; first | assumption | exact AH.none_put (by assumption)))) | (refine AH.le_putM ?_ (by first | assumption | exact (AH.mp_putM_ne _ _ (by assumption)).trans (by assumption) | (simp only [AH.mp_put, AH.mp_setTok] at *; assumption)))))⟩
    have h3 : i = m.length := by omega
    subst h3
    rw [List.take_length]
    obtain ⟨w, hww⟩ : ∃ w, w = runA s m := ⟨_, rfl⟩
    have okw : OKs w := hww ▸ runA_ok m oks
    rw [← hww]
    replace La := La.other x1 x2 x3 x4 w
    replace Lc := Lc.set w
    replace hle : h'.le (setL G5 c1 c2 w) := by unfold setL; exact AH.le_putM (AH.le_putM hle fc1) fc2
    clear Lb Rp Rq hself
    generalize setL G5 c1 c2 w = G6 at La Lc hle ⊢
    simp only [F_law_DecisionSame, g_law_DecisionSame, go_sem, reduceIte, Nat.reduceEqDiff, Nat.reduceAdd, Nat.reduceMul, Nat.reduceSub, reduceCtorEq, Nat.reduceLeDiff, Nat.reduceLT, Int.reduceLT, Int.reduceLE, Int.reduceToNat, Int.reduceAdd, Int.reduceSub, Int.reduceNeg, Int.reduceMul, Int.reduceEq, ← Bool.decide_and, ← Bool.decide_or, ↓tq_n, ↓tq_e, ↓tq_r, ↓bq_n, ↓bq_e, ↓bq_r, ↓rq_n, ↓rq_r, ↓rq_e]
    refine CallS.mk (s_law_model n1 l u1 (by omega) _) fun r H' hr => ?_
    obtain ⟨rv, qv, k1, rfl, rfl⟩ := hr
    rw [← hs]
    have mva := (ne_of_blk La.blk k1).symm
    replace La := La.put' mva (rbk qv (srS s))
    have mvc := (ne_of_blk Lc.blk k1).symm
    replace Lc := Lc.put' mvc (rbk qv (srS s))
    replace hle := AH.le_put (cs := rbk qv (srS s)) hle (le_none hle k1)
    have Rv := AH.blk_put G6 rv (rbk qv (srS s))
    generalize G6.put rv (rbk qv (srS s)) = G7 at La Lc Rv hle ⊢
    clear k1
    simp only [F_law_DecisionSame, g_law_DecisionSame, go_sem, reduceIte, Nat.reduceEqDiff, Nat.reduceAdd, Nat.reduceMul, Nat.reduceSub, reduceCtorEq, Nat.reduceLeDiff, Nat.reduceLT, Int.reduceLT, Int.reduceLE, Int.reduceToNat, Int.reduceAdd, Int.reduceSub, Int.reduceNeg, Int.reduceMul, Int.reduceEq, ← Bool.decide_and, ← Bool.decide_or, ↓tq_n, ↓tq_e, ↓tq_r, ↓bq_n, ↓bq_e, ↓bq_r, ↓rq_n, ↓rq_r, ↓rq_e]
    refine CallG.mk (r_law_same la a1 a2 rv qv s (srS s) oks _ La Rv (few_sr oks)) ?_
    rw [decide_eq_true rfl]
    have hlm : ops l ++ ops m = ops (l ++ m) := (ops_append l m).symm
    have hll : l.length + m.length = (l ++ m).length := List.length_append.symm
    simp only [F_law_DecisionSame, g_law_DecisionSame, go_sem, reduceIte, Nat.reduceEqDiff, Nat.reduceAdd, Nat.reduceMul, Nat.reduceSub, reduceCtorEq, Nat.reduceLeDiff, Nat.reduceLT, Int.reduceLT, Int.reduceLE, Int.reduceToNat, Int.reduceAdd, Int.reduceSub, Int.reduceNeg, Int.reduceMul, Int.reduceEq, ← Bool.decide_and, ← Bool.decide_or, ↓tq_n, ↓tq_e, ↓tq_r, ↓bq_n, ↓bq_e, ↓bq_r, ↓rq_n, ↓rq_r, ↓rq_e]
    refine ⟨ops_len l, by omega, by omega, TokG.mk fun t1 y1 => ?_⟩
    simp only [F_law_DecisionSame, g_law_DecisionSame, go_sem, reduceIte, Nat.reduceEqDiff, Nat.reduceAdd, Nat.reduceMul, Nat.reduceSub, reduceCtorEq, Nat.reduceLeDiff, Nat.reduceLT, Int.reduceLT, Int.reduceLE, Int.reduceToNat, Int.reduceAdd, Int.reduceSub, Int.reduceNeg, Int.reduceMul, Int.reduceEq, ← Bool.decide_and, ← Bool.decide_or, ↓tq_n, ↓tq_e, ↓tq_r, ↓bq_n, ↓bq_e, ↓bq_r, ↓rq_n, ↓rq_r, ↓rq_e]
    refine ⟨ops_len l, ops_len m, by omega, by omega, ?_⟩
    rw [hlm, hll]
    have ytn : h'.tok t1 = none := by
      cases hc : h'.tok t1 with
      | none => rfl
      | some c => rw [hle.tok _ _ hc] at y1; cases y1
    replace La := La.tok t1 (l ++ m).length 8
    replace Lc := Lc.tok t1 (l ++ m).length 8
    replace hle := AH.le_setTok (n := (l ++ m).length) (size := 8) hle ytn
    generalize G7.setTok t1 (l ++ m).length 8 = G8 at La Lc hle ⊢
    refine CallS.mk (s_law_model _ (l ++ m) _ (by rw [List.length_append]; omega) _) fun r H' hr => ?_
    obtain ⟨rz, qz, k1, rfl, rfl⟩ := hr
    rw [runA_append, ← hs, ← hww]
    replace La := La.put' (ne_of_blk La.blk k1).symm (rbk qz (srS w))
    replace Lc := Lc.put' (ne_of_blk Lc.blk k1).symm (rbk qz (srS w))
    replace hle := AH.le_put (cs := rbk qz (srS w)) hle (le_none hle k1)
    have Rz := AH.blk_put G8 rz (rbk qz (srS w))
    generalize G8.put rz (rbk qz (srS w)) = G9 at La Lc Rz hle ⊢
    simp only [F_law_DecisionSame, g_law_DecisionSame, go_sem, reduceIte, Nat.reduceEqDiff, Nat.reduceAdd, Nat.reduceMul, Nat.reduceSub, reduceCtorEq, Nat.reduceLeDiff, Nat.reduceLT, Int.reduceLT, Int.reduceLE, Int.reduceToNat, Int.reduceAdd, Int.reduceSub, Int.reduceNeg, Int.reduceMul, Int.reduceEq, ← Bool.decide_and, ← Bool.decide_or, ↓tq_n, ↓tq_e, ↓tq_r, ↓bq_n, ↓bq_e, ↓bq_r, ↓rq_n, ↓rq_r, ↓rq_e]
    refine CallG.mk (r_law_same lc c1 c2 rz qz w (srS w) okw _ Lc Rz (few_sr okw)) ?_
    rw [decide_eq_true rfl]
    simp only [F_law_DecisionSame, g_law_DecisionSame, go_sem, reduceIte, Nat.reduceEqDiff, Nat.reduceAdd, Nat.reduceMul, Nat.reduceSub, reduceCtorEq, Nat.reduceLeDiff, Nat.reduceLT, Int.reduceLT, Int.reduceLE, Int.reduceToNat, Int.reduceAdd, Int.reduceSub, Int.reduceNeg, Int.reduceMul, Int.reduceEq, ← Bool.decide_and, ← Bool.decide_or, ↓tq_n, ↓tq_e, ↓tq_r, ↓bq_n, ↓bq_e, ↓bq_r, ↓rq_n, ↓rq_r, ↓rq_e]
    refine CallS.mk (s_Make_nil ⟨0, 1, 3, 1, 2⟩ _) fun r H' hr => ?_
    obtain ⟨rfl, rfl⟩ := hr
    simp only [F_law_DecisionSame, g_law_DecisionSame, go_sem, reduceIte, Nat.reduceEqDiff, Nat.reduceAdd, Nat.reduceMul, Nat.reduceSub, reduceCtorEq, Nat.reduceLeDiff, Nat.reduceLT, Int.reduceLT, Int.reduceLE, Int.reduceToNat, Int.reduceAdd, Int.reduceSub, Int.reduceNeg, Int.reduceMul, Int.reduceEq, ← Bool.decide_and, ← Bool.decide_or, ↓tq_n, ↓tq_e, ↓tq_r, ↓bq_n, ↓bq_e, ↓bq_r, ↓rq_n, ↓rq_r, ↓rq_e]
    refine CallS.mk (s_Withdraw_nil (0, 1) _) fun r H' hr => ?_
    obtain ⟨rfl, rfl⟩ := hr
    simp only [F_law_DecisionSame, g_law_DecisionSame, go_sem, reduceIte, Nat.reduceEqDiff, Nat.reduceAdd, Nat.reduceMul, Nat.reduceSub, reduceCtorEq, Nat.reduceLeDiff, Nat.reduceLT, Int.reduceLT, Int.reduceLE, Int.reduceToNat, Int.reduceAdd, Int.reduceSub, Int.reduceNeg, Int.reduceMul, Int.reduceEq, ← Bool.decide_and, ← Bool.decide_or, ↓tq_n, ↓tq_e, ↓tq_r, ↓bq_n, ↓bq_e, ↓bq_r, ↓rq_n, ↓rq_r, ↓rq_e]
    refine CallS.mk (s_Join_nil1 (.ptr la 0) _) fun r H' hr => ?_
    obtain ⟨rfl, rfl⟩ := hr
    simp only [F_law_DecisionSame, g_law_DecisionSame, go_sem, reduceIte, Nat.reduceEqDiff, Nat.reduceAdd, Nat.reduceMul, Nat.reduceSub, reduceCtorEq, Nat.reduceLeDiff, Nat.reduceLT, Int.reduceLT, Int.reduceLE, Int.reduceToNat, Int.reduceAdd, Int.reduceSub, Int.reduceNeg, Int.reduceMul, Int.reduceEq, ← Bool.decide_and, ← Bool.decide_or, ↓tq_n, ↓tq_e, ↓tq_r, ↓bq_n, ↓bq_e, ↓bq_r, ↓rq_n, ↓rq_r, ↓rq_e]
    refine CallS.mk (s_Join_nil2 la _) fun r H' hr => ?_
    obtain ⟨rfl, rfl⟩ := hr
    simp only [F_law_DecisionSame, g_law_DecisionSame, go_sem, reduceIte, Nat.reduceEqDiff, Nat.reduceAdd, Nat.reduceMul, Nat.reduceSub, reduceCtorEq, Nat.reduceLeDiff, Nat.reduceLT, Int.reduceLT, Int.reduceLE, Int.reduceToNat, Int.reduceAdd, Int.reduceSub, Int.reduceNeg, Int.reduceMul, Int.reduceEq, ← Bool.decide_and, ← Bool.decide_or, ↓tq_n, ↓tq_e, ↓tq_r, ↓bq_n, ↓bq_e, ↓bq_r, ↓rq_n, ↓rq_r, ↓rq_e]
    refine CallS.mk (s_Clone_nil _) fun r H' hr => ?_
    obtain ⟨rfl, rfl⟩ := hr
    simp only [F_law_DecisionSame, g_law_DecisionSame, go_sem, reduceIte, Nat.reduceEqDiff, Nat.reduceAdd, Nat.reduceMul, Nat.reduceSub, reduceCtorEq, Nat.reduceLeDiff, Nat.reduceLT, Int.reduceLT, Int.reduceLE, Int.reduceToNat, Int.reduceAdd, Int.reduceSub, Int.reduceNeg, Int.reduceMul, Int.reduceEq, ← Bool.decide_and, ← Bool.decide_or, ↓tq_n, ↓tq_e, ↓tq_r, ↓bq_n, ↓bq_e, ↓bq_r, ↓rq_n, ↓rq_r, ↓rq_e]
    refine CallS.mk (s_Standing_nil _) fun r H' hr => ?_
    obtain ⟨rfl, rfl⟩ := hr
    simp only [F_law_DecisionSame, g_law_DecisionSame, go_sem, reduceIte, Nat.reduceEqDiff, Nat.reduceAdd, Nat.reduceMul, Nat.reduceSub, reduceCtorEq, Nat.reduceLeDiff, Nat.reduceLT, Int.reduceLT, Int.reduceLE, Int.reduceToNat, Int.reduceAdd, Int.reduceSub, Int.reduceNeg, Int.reduceMul, Int.reduceEq, ← Bool.decide_and, ← Bool.decide_or, ↓tq_n, ↓tq_e, ↓tq_r, ↓bq_n, ↓bq_e, ↓bq_r, ↓rq_n, ↓rq_r, ↓rq_e]
    exact ret_le hle (AV.le.refl _)
end Go.Proofs.Ytcnmodnafnadlaa
