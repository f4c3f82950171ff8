/- Calls of functions of this seat's program: the laws DatingDates and DatingEnds. No condition. -/
import Derived.Test.YtcicklmlbdfneaaD15
namespace Go.Proofs.Ytcicklmlbdfneaa
open Go Go.Abs
set_option linter.unusedSimpArgs false
set_option linter.unusedVariables false
set_option maxRecDepth 20000

def cA : Cr := ⟨false, [(-49, -39), (-44, -29)], .full, false, [⟨1, false, [(1, 1), (2, 1)], .full, (-59, -37)⟩], .full, false, [(2, 1, -3)], .full⟩
theorem cA_vc : VC cA := of_decide_eq_true (by kernel_rfl)
theorem cA_ok : Ok cA := of_decide_eq_true (by kernel_rfl)
theorem cA_T : zT cA = [(-49, -40), (-44, -37)] := by kernel_rfl
theorem cA_H : zH cA = [(-44, -37)] := by kernel_rfl
theorem cA_h : hoc cA false = [-44] := by kernel_rfl
theorem cA_dates : datesV cA = .tup [.sl false 2 (prs [(-49, -40), (-44, -37)]) .unk, .sl false 1 (prs [(-44, -37)]) .unk, I 0] := by
  unfold datesV
  rw [if_pos cA_vc, if_pos cA_ok, cA_T, cA_H]; rfl
theorem cA_term : termV cA 0 = .tup [I (-44), I 0] := by
  unfold termV
  rw [if_pos cA_vc, if_pos (by decide), if_pos cA_ok, cA_h]; rfl
theorem r_law_awake (h : AH) : RCall Try.prog n_law_awake [] h (.bool true) := by
  refine RCall.of hm cF_law_awake (by simp [g_law_awake]) fun hw h' hl => ?_
  simp only [F_law_awake, g_law_awake, go_sem, reduceIte, Nat.reduceEqDiff, Nat.reduceAdd, Nat.reduceMul, Nat.reduceSub, reduceCtorEq, Nat.reduceLeDiff, Nat.reduceLT, Int.reduceLT, Int.reduceLE, Int.reduceToNat, Int.reduceAdd, Int.reduceSub, Int.reduceNeg, Int.reduceMul, Int.reduceEq, ← Bool.decide_and, ← Bool.decide_or, ↓tq_n, ↓tq_e, ↓tq_r, ↓bq_n, ↓bq_e, ↓bq_r, ↓rq_n, ↓rq_r, ↓rq_e]
  refine CallG.mk (v := datesV cA) (r_dating_Dates cA _) ?_
  rw [cA_dates]
  simp only [F_law_awake, g_law_awake, go_sem, reduceIte, Nat.reduceEqDiff, Nat.reduceAdd, Nat.reduceMul, Nat.reduceSub, reduceCtorEq, Nat.reduceLeDiff, Nat.reduceLT, Int.reduceLT, Int.reduceLE, Int.reduceToNat, Int.reduceAdd, Int.reduceSub, Int.reduceNeg, Int.reduceMul, Int.reduceEq, ← Bool.decide_and, ← Bool.decide_or, ↓tq_n, ↓tq_e, ↓tq_r, ↓bq_n, ↓bq_e, ↓bq_r, ↓rq_n, ↓rq_r, ↓rq_e]
  refine CallG.mk (v := termV cA 0) (r_dating_Terminus cA 0 _) ?_
  rw [cA_term]
  simp only [F_law_awake, g_law_awake, go_sem, reduceIte, Nat.reduceEqDiff, Nat.reduceAdd, Nat.reduceMul, Nat.reduceSub, reduceCtorEq, Nat.reduceLeDiff, Nat.reduceLT, Int.reduceLT, Int.reduceLE, Int.reduceToNat, Int.reduceAdd, Int.reduceSub, Int.reduceNeg, Int.reduceMul, Int.reduceEq, ← Bool.decide_and, ← Bool.decide_or, ↓tq_n, ↓tq_e, ↓tq_r, ↓bq_n, ↓bq_e, ↓bq_r, ↓rq_n, ↓rq_r, ↓rq_e]
  refine CallG.mk (r_base_YearsList false false [(-49, -40), (-44, -37)] [(-49, -40), (-44, -37)] .unk .full _) ?_
  simp only [F_law_awake, g_law_awake, go_sem, reduceIte, Nat.reduceEqDiff, Nat.reduceAdd, Nat.reduceMul, Nat.reduceSub, reduceCtorEq, Nat.reduceLeDiff, Nat.reduceLT, Int.reduceLT, Int.reduceLE, Int.reduceToNat, Int.reduceAdd, Int.reduceSub, Int.reduceNeg, Int.reduceMul, Int.reduceEq, ← Bool.decide_and, ← Bool.decide_or, ↓tq_n, ↓tq_e, ↓tq_r, ↓bq_n, ↓bq_e, ↓bq_r, ↓rq_n, ↓rq_r, ↓rq_e]
  refine CallG.mk (r_base_YearsList false false [(-44, -37)] [(-44, -37)] .unk .full _) ?_
  simp only [F_law_awake, g_law_awake, go_sem, reduceIte, Nat.reduceEqDiff, Nat.reduceAdd, Nat.reduceMul, Nat.reduceSub, reduceCtorEq, Nat.reduceLeDiff, Nat.reduceLT, Int.reduceLT, Int.reduceLE, Int.reduceToNat, Int.reduceAdd, Int.reduceSub, Int.reduceNeg, Int.reduceMul, Int.reduceEq, ← Bool.decide_and, ← Bool.decide_or, ↓tq_n, ↓tq_e, ↓tq_r, ↓bq_n, ↓bq_e, ↓bq_r, ↓rq_n, ↓rq_r, ↓rq_e]
  exact ret_ok rfl

/-- The answers in one form. -/
def qq (c : Cr) : Int := if VC c then (if Ok c then 0 else 10) else 1
def dT (c : Cr) : List (Int × Int) := if VC c ∧ Ok c then zT c else []
def dHo (c : Cr) : List (Int × Int) := if VC c ∧ Ok c then zH c else []
def eT (c : Cr) (b : Bool) : List Int := if VC c ∧ Ok c then loc c b else []
def eH (c : Cr) (b : Bool) : List Int := if VC c ∧ Ok c then hoc c b else []
theorem datesV_eq (c : Cr) : ∃ n1 t1 n2 t2, datesV c = .tup [.sl n1 (dT c).length (prs (dT c)) t1, .sl n2 (dHo c).length (prs (dHo c)) t2, I (qq c)] := by
  unfold datesV qq dT dHo
  by_cases h1 : VC c
  · by_cases h2 : Ok c
    · simp only [h1, h2, if_true, and_self, zT_len, zH_len]; exact ⟨_, _, _, _, rfl⟩
    · simp only [h1, h2, if_true, if_false, and_false]; exact ⟨_, _, _, _, rfl⟩
  · simp only [h1, if_false, false_and]; exact ⟨_, _, _, _, rfl⟩
theorem rdatesV_eq (c : Cr) : ∃ n1 t1 n2 t2, rdatesV c = .tup [.sl n1 (dT c).length (prs (dT c)) t1, .sl n2 (dHo c).length (prs (dHo c)) t2, I (qq c)] := by
  unfold rdatesV qq dT dHo
  by_cases h1 : VC c
  · by_cases h2 : Ok c
    · simp only [h1, h2, if_true, and_self, zT_len, zH_len, gl]; exact ⟨_, _, _, _, rfl⟩
    · simp only [h1, h2, if_true, if_false, and_false]; exact ⟨_, _, _, _, rfl⟩
  · simp only [h1, if_false, false_and]; exact ⟨_, _, _, _, rfl⟩
theorem endsV_eq (c : Cr) (b : Bool) : ∃ n1 t1 n2 t2, endsV c b = .tup [.sl n1 (eT c b).length (i64s (eT c b)) t1, .sl n2 (eH c b).length (i64s (eH c b)) t2, I (qq c)] := by
  unfold endsV qq eT eH asl
  by_cases h1 : VC c
  · by_cases h2 : Ok c
    · simp only [h1, h2, if_true, and_self]; exact ⟨_, _, _, _, rfl⟩
    · simp only [h1, h2, if_true, if_false, and_false]; exact ⟨_, _, _, _, rfl⟩
  · simp only [h1, if_false, false_and]; exact ⟨_, _, _, _, rfl⟩
theorem termV_eq (c : Cr) (k : Int) : ∃ x y, termV c k = .tup [I x, I y] := by
  unfold termV
  split
  · split
    · split
      · exact ⟨_, _, rfl⟩
      · exact ⟨_, _, rfl⟩
    · exact ⟨_, _, rfl⟩
  · exact ⟨_, _, rfl⟩

theorem r_law_DatingDates (c : Cr) (h : AH) : RCall Try.prog n_law_DatingDates [.st c.cs] h (.bool true) := by
  refine RCall.of hm cF_law_DatingDates (by simp [g_law_DatingDates]) fun hw h' hl => ?_
  simp only [Cr.cs, F_law_DatingDates, g_law_DatingDates, go_sem, reduceIte, Nat.reduceEqDiff, Nat.reduceAdd, Nat.reduceMul, Nat.reduceSub, reduceCtorEq, Nat.reduceLeDiff, Nat.reduceLT, Int.reduceLT, Int.reduceLE, Int.reduceToNat, Int.reduceAdd, Int.reduceSub, Int.reduceNeg, Int.reduceMul, Int.reduceEq, ← Bool.decide_and, ← Bool.decide_or, ↓tq_n, ↓tq_e, ↓tq_r, ↓bq_n, ↓bq_e, ↓bq_r, ↓rq_n, ↓rq_r, ↓rq_e]
  refine CallG.mk (r_law_awake _) ?_
  simp only [F_law_DatingDates, g_law_DatingDates, go_sem, reduceIte, Nat.reduceEqDiff, Nat.reduceAdd, Nat.reduceMul, Nat.reduceSub, reduceCtorEq, Nat.reduceLeDiff, Nat.reduceLT, Int.reduceLT, Int.reduceLE, Int.reduceToNat, Int.reduceAdd, Int.reduceSub, Int.reduceNeg, Int.reduceMul, Int.reduceEq, ← Bool.decide_and, ← Bool.decide_or, ↓tq_n, ↓tq_e, ↓tq_r, ↓bq_n, ↓bq_e, ↓bq_r, ↓rq_n, ↓rq_r, ↓rq_e]
  refine CallG.mk (r_law_few c _) ?_
  simp only [F_law_DatingDates, g_law_DatingDates, go_sem, reduceIte, Nat.reduceEqDiff, Nat.reduceAdd, Nat.reduceMul, Nat.reduceSub, reduceCtorEq, Nat.reduceLeDiff, Nat.reduceLT, Int.reduceLT, Int.reduceLE, Int.reduceToNat, Int.reduceAdd, Int.reduceSub, Int.reduceNeg, Int.reduceMul, Int.reduceEq, ← Bool.decide_and, ← Bool.decide_or, ↓tq_n, ↓tq_e, ↓tq_r, ↓bq_n, ↓bq_e, ↓bq_r, ↓rq_n, ↓rq_r, ↓rq_e]
  refine ⟨fun h1 => CallG.mk (r_law_awake _) ?_, fun h1 => CallG.mk (r_dating_Dates c _) ?_⟩
  · simp only [F_law_DatingDates, g_law_DatingDates, go_sem, reduceIte, Nat.reduceEqDiff, Nat.reduceAdd, Nat.reduceMul, Nat.reduceSub, reduceCtorEq, Nat.reduceLeDiff, Nat.reduceLT, Int.reduceLT, Int.reduceLE, Int.reduceToNat, Int.reduceAdd, Int.reduceSub, Int.reduceNeg, Int.reduceMul, Int.reduceEq, ← Bool.decide_and, ← Bool.decide_or, ↓tq_n, ↓tq_e, ↓tq_r, ↓bq_n, ↓bq_e, ↓bq_r, ↓rq_n, ↓rq_r, ↓rq_e]
    exact ret_ok rfl
  obtain ⟨n1, t1, n2, t2, e1⟩ := datesV_eq c
  obtain ⟨n3, t3, n4, t4, e2⟩ := rdatesV_eq c
  rw [e1]
  simp only [F_law_DatingDates, g_law_DatingDates, go_sem, reduceIte, Nat.reduceEqDiff, Nat.reduceAdd, Nat.reduceMul, Nat.reduceSub, reduceCtorEq, Nat.reduceLeDiff, Nat.reduceLT, Int.reduceLT, Int.reduceLE, Int.reduceToNat, Int.reduceAdd, Int.reduceSub, Int.reduceNeg, Int.reduceMul, Int.reduceEq, ← Bool.decide_and, ← Bool.decide_or, ↓tq_n, ↓tq_e, ↓tq_r, ↓bq_n, ↓bq_e, ↓bq_r, ↓rq_n, ↓rq_r, ↓rq_e]
  refine CallG.mk (r_ref_Dates c _) ?_
  rw [e2]
  simp only [F_law_DatingDates, g_law_DatingDates, go_sem, reduceIte, Nat.reduceEqDiff, Nat.reduceAdd, Nat.reduceMul, Nat.reduceSub, reduceCtorEq, Nat.reduceLeDiff, Nat.reduceLT, Int.reduceLT, Int.reduceLE, Int.reduceToNat, Int.reduceAdd, Int.reduceSub, Int.reduceNeg, Int.reduceMul, Int.reduceEq, ← Bool.decide_and, ← Bool.decide_or, ↓tq_n, ↓tq_e, ↓tq_r, ↓bq_n, ↓bq_e, ↓bq_r, ↓rq_n, ↓rq_r, ↓rq_e]
  refine CallG.mk (r_dating_Valid c _) ?_
  simp only [F_law_DatingDates, g_law_DatingDates, go_sem, reduceIte, Nat.reduceEqDiff, Nat.reduceAdd, Nat.reduceMul, Nat.reduceSub, reduceCtorEq, Nat.reduceLeDiff, Nat.reduceLT, Int.reduceLT, Int.reduceLE, Int.reduceToNat, Int.reduceAdd, Int.reduceSub, Int.reduceNeg, Int.reduceMul, Int.reduceEq, ← Bool.decide_and, ← Bool.decide_or, ↓tq_n, ↓tq_e, ↓tq_r, ↓bq_n, ↓bq_e, ↓bq_r, ↓rq_n, ↓rq_r, ↓rq_e]
  refine CallG.mk (r_ref_Valid c _) ?_
  simp only [F_law_DatingDates, g_law_DatingDates, go_sem, reduceIte, Nat.reduceEqDiff, Nat.reduceAdd, Nat.reduceMul, Nat.reduceSub, reduceCtorEq, Nat.reduceLeDiff, Nat.reduceLT, Int.reduceLT, Int.reduceLE, Int.reduceToNat, Int.reduceAdd, Int.reduceSub, Int.reduceNeg, Int.reduceMul, Int.reduceEq, ← Bool.decide_and, ← Bool.decide_or, ↓tq_n, ↓tq_e, ↓tq_r, ↓bq_n, ↓bq_e, ↓bq_r, ↓rq_n, ↓rq_r, ↓rq_e]
  refine CallG.mk (r_base_YearsList _ _ _ _ _ _ _) ?_
  simp only [F_law_DatingDates, g_law_DatingDates, go_sem, reduceIte, Nat.reduceEqDiff, Nat.reduceAdd, Nat.reduceMul, Nat.reduceSub, reduceCtorEq, Nat.reduceLeDiff, Nat.reduceLT, Int.reduceLT, Int.reduceLE, Int.reduceToNat, Int.reduceAdd, Int.reduceSub, Int.reduceNeg, Int.reduceMul, Int.reduceEq, ← Bool.decide_and, ← Bool.decide_or, ↓tq_n, ↓tq_e, ↓tq_r, ↓bq_n, ↓bq_e, ↓bq_r, ↓rq_n, ↓rq_r, ↓rq_e]
  refine CallG.mk (r_base_YearsList _ _ _ _ _ _ _) ?_
  simp only [F_law_DatingDates, g_law_DatingDates, go_sem, reduceIte, Nat.reduceEqDiff, Nat.reduceAdd, Nat.reduceMul, Nat.reduceSub, reduceCtorEq, Nat.reduceLeDiff, Nat.reduceLT, Int.reduceLT, Int.reduceLE, Int.reduceToNat, Int.reduceAdd, Int.reduceSub, Int.reduceNeg, Int.reduceMul, Int.reduceEq, ← Bool.decide_and, ← Bool.decide_or, ↓tq_n, ↓tq_e, ↓tq_r, ↓bq_n, ↓bq_e, ↓bq_r, ↓rq_n, ↓rq_r, ↓rq_e]
  exact ret_ok (by simp)

theorem r_law_DatingEnds (c : Cr) (k : Int) (h : AH) : RCall Try.prog n_law_DatingEnds [.st c.cs, I k] h (.bool true) := by
  refine RCall.of hm cF_law_DatingEnds (by simp [g_law_DatingEnds]) fun hw h' hl => ?_
  simp only [Cr.cs, F_law_DatingEnds, g_law_DatingEnds, go_sem, reduceIte, Nat.reduceEqDiff, Nat.reduceAdd, Nat.reduceMul, Nat.reduceSub, reduceCtorEq, Nat.reduceLeDiff, Nat.reduceLT, Int.reduceLT, Int.reduceLE, Int.reduceToNat, Int.reduceAdd, Int.reduceSub, Int.reduceNeg, Int.reduceMul, Int.reduceEq, ← Bool.decide_and, ← Bool.decide_or, ↓tq_n, ↓tq_e, ↓tq_r, ↓bq_n, ↓bq_e, ↓bq_r, ↓rq_n, ↓rq_r, ↓rq_e]
  refine CallG.mk (r_law_awake _) ?_
  simp only [F_law_DatingEnds, g_law_DatingEnds, go_sem, reduceIte, Nat.reduceEqDiff, Nat.reduceAdd, Nat.reduceMul, Nat.reduceSub, reduceCtorEq, Nat.reduceLeDiff, Nat.reduceLT, Int.reduceLT, Int.reduceLE, Int.reduceToNat, Int.reduceAdd, Int.reduceSub, Int.reduceNeg, Int.reduceMul, Int.reduceEq, ← Bool.decide_and, ← Bool.decide_or, ↓tq_n, ↓tq_e, ↓tq_r, ↓bq_n, ↓bq_e, ↓bq_r, ↓rq_n, ↓rq_r, ↓rq_e]
  refine CallG.mk (r_law_few c _) ?_
  simp only [F_law_DatingEnds, g_law_DatingEnds, go_sem, reduceIte, Nat.reduceEqDiff, Nat.reduceAdd, Nat.reduceMul, Nat.reduceSub, reduceCtorEq, Nat.reduceLeDiff, Nat.reduceLT, Int.reduceLT, Int.reduceLE, Int.reduceToNat, Int.reduceAdd, Int.reduceSub, Int.reduceNeg, Int.reduceMul, Int.reduceEq, ← Bool.decide_and, ← Bool.decide_or, ↓tq_n, ↓tq_e, ↓tq_r, ↓bq_n, ↓bq_e, ↓bq_r, ↓rq_n, ↓rq_r, ↓rq_e]
  refine ⟨fun h1 => CallG.mk (r_law_awake _) ?_, fun h1 => CallG.mk (r_dating_Some c _) ?_⟩
  · simp only [F_law_DatingEnds, g_law_DatingEnds, go_sem, reduceIte, Nat.reduceEqDiff, Nat.reduceAdd, Nat.reduceMul, Nat.reduceSub, reduceCtorEq, Nat.reduceLeDiff, Nat.reduceLT, Int.reduceLT, Int.reduceLE, Int.reduceToNat, Int.reduceAdd, Int.reduceSub, Int.reduceNeg, Int.reduceMul, Int.reduceEq, ← Bool.decide_and, ← Bool.decide_or, ↓tq_n, ↓tq_e, ↓tq_r, ↓bq_n, ↓bq_e, ↓bq_r, ↓rq_n, ↓rq_r, ↓rq_e]
    exact ret_ok rfl
  obtain ⟨n1, t1, n2, t2, e1⟩ := endsV_eq c false
  obtain ⟨n3, t3, n4, t4, e2⟩ := endsV_eq c true
  obtain ⟨x, y, e3⟩ := termV_eq c k
  rw [e1]
  simp only [F_law_DatingEnds, g_law_DatingEnds, go_sem, reduceIte, Nat.reduceEqDiff, Nat.reduceAdd, Nat.reduceMul, Nat.reduceSub, reduceCtorEq, Nat.reduceLeDiff, Nat.reduceLT, Int.reduceLT, Int.reduceLE, Int.reduceToNat, Int.reduceAdd, Int.reduceSub, Int.reduceNeg, Int.reduceMul, Int.reduceEq, ← Bool.decide_and, ← Bool.decide_or, ↓tq_n, ↓tq_e, ↓tq_r, ↓bq_n, ↓bq_e, ↓bq_r, ↓rq_n, ↓rq_r, ↓rq_e]
  refine CallG.mk (ends_ref_Some c _) ?_
  rw [e1]
  simp only [F_law_DatingEnds, g_law_DatingEnds, go_sem, reduceIte, Nat.reduceEqDiff, Nat.reduceAdd, Nat.reduceMul, Nat.reduceSub, reduceCtorEq, Nat.reduceLeDiff, Nat.reduceLT, Int.reduceLT, Int.reduceLE, Int.reduceToNat, Int.reduceAdd, Int.reduceSub, Int.reduceNeg, Int.reduceMul, Int.reduceEq, ← Bool.decide_and, ← Bool.decide_or, ↓tq_n, ↓tq_e, ↓tq_r, ↓bq_n, ↓bq_e, ↓bq_r, ↓rq_n, ↓rq_r, ↓rq_e]
  refine CallG.mk (r_dating_Last c _) ?_
  rw [e2]
  simp only [F_law_DatingEnds, g_law_DatingEnds, go_sem, reduceIte, Nat.reduceEqDiff, Nat.reduceAdd, Nat.reduceMul, Nat.reduceSub, reduceCtorEq, Nat.reduceLeDiff, Nat.reduceLT, Int.reduceLT, Int.reduceLE, Int.reduceToNat, Int.reduceAdd, Int.reduceSub, Int.reduceNeg, Int.reduceMul, Int.reduceEq, ← Bool.decide_and, ← Bool.decide_or, ↓tq_n, ↓tq_e, ↓tq_r, ↓bq_n, ↓bq_e, ↓bq_r, ↓rq_n, ↓rq_r, ↓rq_e]
  refine CallG.mk (ends_ref_Last c _) ?_
  rw [e2]
  simp only [F_law_DatingEnds, g_law_DatingEnds, go_sem, reduceIte, Nat.reduceEqDiff, Nat.reduceAdd, Nat.reduceMul, Nat.reduceSub, reduceCtorEq, Nat.reduceLeDiff, Nat.reduceLT, Int.reduceLT, Int.reduceLE, Int.reduceToNat, Int.reduceAdd, Int.reduceSub, Int.reduceNeg, Int.reduceMul, Int.reduceEq, ← Bool.decide_and, ← Bool.decide_or, ↓tq_n, ↓tq_e, ↓tq_r, ↓bq_n, ↓bq_e, ↓bq_r, ↓rq_n, ↓rq_r, ↓rq_e]
  refine CallG.mk (r_dating_Terminus c k _) ?_
  rw [e3]
  simp only [F_law_DatingEnds, g_law_DatingEnds, go_sem, reduceIte, Nat.reduceEqDiff, Nat.reduceAdd, Nat.reduceMul, Nat.reduceSub, reduceCtorEq, Nat.reduceLeDiff, Nat.reduceLT, Int.reduceLT, Int.reduceLE, Int.reduceToNat, Int.reduceAdd, Int.reduceSub, Int.reduceNeg, Int.reduceMul, Int.reduceEq, ← Bool.decide_and, ← Bool.decide_or, ↓tq_n, ↓tq_e, ↓tq_r, ↓bq_n, ↓bq_e, ↓bq_r, ↓rq_n, ↓rq_r, ↓rq_e]
  refine CallG.mk (r_ref_Terminus c k _) ?_
  rw [e3]
  simp only [F_law_DatingEnds, g_law_DatingEnds, go_sem, reduceIte, Nat.reduceEqDiff, Nat.reduceAdd, Nat.reduceMul, Nat.reduceSub, reduceCtorEq, Nat.reduceLeDiff, Nat.reduceLT, Int.reduceLT, Int.reduceLE, Int.reduceToNat, Int.reduceAdd, Int.reduceSub, Int.reduceNeg, Int.reduceMul, Int.reduceEq, ← Bool.decide_and, ← Bool.decide_or, ↓tq_n, ↓tq_e, ↓tq_r, ↓bq_n, ↓bq_e, ↓bq_r, ↓rq_n, ↓rq_r, ↓rq_e]
  refine CallG.mk (r_base_Ints _ _ _ _ _ _ _) ?_
  simp only [F_law_DatingEnds, g_law_DatingEnds, go_sem, reduceIte, Nat.reduceEqDiff, Nat.reduceAdd, Nat.reduceMul, Nat.reduceSub, reduceCtorEq, Nat.reduceLeDiff, Nat.reduceLT, Int.reduceLT, Int.reduceLE, Int.reduceToNat, Int.reduceAdd, Int.reduceSub, Int.reduceNeg, Int.reduceMul, Int.reduceEq, ← Bool.decide_and, ← Bool.decide_or, ↓tq_n, ↓tq_e, ↓tq_r, ↓bq_n, ↓bq_e, ↓bq_r, ↓rq_n, ↓rq_r, ↓rq_e]
  refine CallG.mk (r_base_Ints _ _ _ _ _ _ _) ?_
  simp only [F_law_DatingEnds, g_law_DatingEnds, go_sem, reduceIte, Nat.reduceEqDiff, Nat.reduceAdd, Nat.reduceMul, Nat.reduceSub, reduceCtorEq, Nat.reduceLeDiff, Nat.reduceLT, Int.reduceLT, Int.reduceLE, Int.reduceToNat, Int.reduceAdd, Int.reduceSub, Int.reduceNeg, Int.reduceMul, Int.reduceEq, ← Bool.decide_and, ← Bool.decide_or, ↓tq_n, ↓tq_e, ↓tq_r, ↓bq_n, ↓bq_e, ↓bq_r, ↓rq_n, ↓rq_r, ↓rq_e]
  refine CallG.mk (r_base_Ints _ _ _ _ _ _ _) ?_
  simp only [F_law_DatingEnds, g_law_DatingEnds, go_sem, reduceIte, Nat.reduceEqDiff, Nat.reduceAdd, Nat.reduceMul, Nat.reduceSub, reduceCtorEq, Nat.reduceLeDiff, Nat.reduceLT, Int.reduceLT, Int.reduceLE, Int.reduceToNat, Int.reduceAdd, Int.reduceSub, Int.reduceNeg, Int.reduceMul, Int.reduceEq, ← Bool.decide_and, ← Bool.decide_or, ↓tq_n, ↓tq_e, ↓tq_r, ↓bq_n, ↓bq_e, ↓bq_r, ↓rq_n, ↓rq_r, ↓rq_e]
  refine CallG.mk (r_base_Ints _ _ _ _ _ _ _) ?_
  simp only [F_law_DatingEnds, g_law_DatingEnds, go_sem, reduceIte, Nat.reduceEqDiff, Nat.reduceAdd, Nat.reduceMul, Nat.reduceSub, reduceCtorEq, Nat.reduceLeDiff, Nat.reduceLT, Int.reduceLT, Int.reduceLE, Int.reduceToNat, Int.reduceAdd, Int.reduceSub, Int.reduceNeg, Int.reduceMul, Int.reduceEq, ← Bool.decide_and, ← Bool.decide_or, ↓tq_n, ↓tq_e, ↓tq_r, ↓bq_n, ↓bq_e, ↓bq_r, ↓rq_n, ↓rq_r, ↓rq_e]
  exact ret_ok (by simp)
end Go.Proofs.Ytcicklmlbdfneaa
