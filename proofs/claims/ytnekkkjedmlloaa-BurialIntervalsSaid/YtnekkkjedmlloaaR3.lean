/- Calls of functions of this seat's program: poset.Valid, Closure, Acyclic. No condition. -/
import Derived.Test.YtnekkkjedmlloaaR2
namespace Go.Proofs.Ytnekkkjedmlloaa
open Go Go.Abs
set_option linter.unusedSimpArgs false
set_option linter.unusedVariables false
set_option maxRecDepth 20000

/-- One arc of a digraph, and that it comes after the one before. -/
def DgA (n : Int) (a : List (Int × Int)) (i : Nat) : Prop :=
  (0 ≤ (a.getD i (0, 0)).1 ∧ (a.getD i (0, 0)).1 < n ∧ 0 ≤ (a.getD i (0, 0)).2 ∧ (a.getD i (0, 0)).2 < n ∧ (a.getD i (0, 0)).1 ≠ (a.getD i (0, 0)).2) ∧
  (0 < i → (a.getD (i - 1) (0, 0)).1 < (a.getD i (0, 0)).1 ∨ (a.getD (i - 1) (0, 0)).1 = (a.getD i (0, 0)).1 ∧ (a.getD (i - 1) (0, 0)).2 < (a.getD i (0, 0)).2)
instance (n : Int) (a : List (Int × Int)) (i : Nat) : Decidable (DgA n a i) := by unfold DgA; infer_instance
def Dg (n : Int) (a : List (Int × Int)) : Prop := 0 ≤ n ∧ n ≤ 24 ∧ ∀ i, i < a.length → DgA n a i
instance (n : Int) (a : List (Int × Int)) : Decidable (Dg n a) := by unfold Dg; infer_instance
set_option maxHeartbeats 2000000 in
theorem r_poset_Valid (n : Int) (nl : Bool) (a : List (Int × Int)) (tl : Tail) (h : AH) : RCall Try.prog n_poset_Valid [I n, .sl nl a.length (prs a) tl] h (.bool (decide (Dg n a))) := by
  refine RCall.of hm cF_poset_Valid (by simp [g_poset_Valid]) fun hw h' hl => ?_
  have hx := wf_len (hw _ (.tail _ (.head _)))
  by_cases h0 : n < 0
  · simp only [h0, F_poset_Valid, g_poset_Valid, go_sem, reduceIte, Nat.reduceEqDiff, Nat.reduceAdd, Nat.reduceMul, Nat.reduceSub, reduceCtorEq, Nat.reduceLeDiff, Nat.reduceLT, Int.reduceLT, Int.reduceLE, Int.reduceToNat, Int.reduceAdd, Int.reduceSub, Int.reduceNeg, Int.reduceMul, Int.reduceEq, ← Bool.decide_and, ← Bool.decide_or, ↓tq_n, ↓tq_e, ↓tq_r, ↓bq_n, ↓bq_e, ↓bq_r, ↓rq_n, ↓rq_r, ↓rq_e]
    exact ret_ok (by rw [decide_eq_false (fun hh => by have := hh.1; omega)])
  by_cases h1 : 24 < n
  · simp only [h0, h1, F_poset_Valid, g_poset_Valid, go_sem, reduceIte, Nat.reduceEqDiff, Nat.reduceAdd, Nat.reduceMul, Nat.reduceSub, reduceCtorEq, Nat.reduceLeDiff, Nat.reduceLT, Int.reduceLT, Int.reduceLE, Int.reduceToNat, Int.reduceAdd, Int.reduceSub, Int.reduceNeg, Int.reduceMul, Int.reduceEq, ← Bool.decide_and, ← Bool.decide_or, ↓tq_n, ↓tq_e, ↓tq_r, ↓bq_n, ↓bq_e, ↓bq_r, ↓rq_n, ↓rq_r, ↓rq_e]
    exact ret_ok (by rw [decide_eq_false (fun hh => by have := hh.2.1; omega)])
  simp only [h0, h1, F_poset_Valid, g_poset_Valid, go_sem, reduceIte, Nat.reduceEqDiff, Nat.reduceAdd, Nat.reduceMul, Nat.reduceSub, reduceCtorEq, Nat.reduceLeDiff, Nat.reduceLT, Int.reduceLT, Int.reduceLE, Int.reduceToNat, Int.reduceAdd, Int.reduceSub, Int.reduceNeg, Int.reduceMul, Int.reduceEq, ← Bool.decide_and, ← Bool.decide_or, ↓tq_n, ↓tq_e, ↓tq_r, ↓bq_n, ↓bq_e, ↓bq_r, ↓rq_n, ↓rq_r, ↓rq_e]
  refine awp_loop (fun i : Nat => [(0, I n), (1, .sl nl a.length (prs a) tl), (13, .sl nl a.length (prs a) tl), (14, I a.length), (15, I i)]) (fun _ => h') (fun i => i ≤ a.length ∧ ∀ j, j < i → DgA n a j) (fun i => a.length - i) 0 ⟨Nat.zero_le _, fun j hj => by omega⟩ (GStep.forget (by repeat' first | exact EnvLe.nil _ | refine EnvLe.cons (AV.le.of_eq rfl) ?_ | refine EnvLe.cons (AV.le.undef _) ?_ | refine EnvLe.cons AV.le.unk ?_) (by repeat' first | exact AH.le.refl _ | assumption | (refine AH.le_put ?_ (by first | assumption | exact (AH.blk_put_ne _ _ (by assumption)).trans (by assumption) | exact AH.none_put (by assumption) | exact AH.none_put (AH.none_put (by assumption)) | (simp only [AH.blk_setTok, AH.tok_put] at *; first | assumption | exact AH.none_put (by assumption)))) | (refine AH.le_setTok ?_ (by first | assumption | exact (AH.blk_put_ne _ _ (by assumption)).trans (by assumption) | exact AH.none_put (by assumption) | exact AH.none_put (AH.none_put (by assumption)) | (simp only [AH.blk_setTok, AH.tok_put] at *; first | assumption | exact AH.none_put (by assumption)))) | (refine AH.le_putM ?_ (by first | assumption | exact (AH.mp_putM_ne _ _ (by assumption)).trans (by assumption) | (simp only [AH.mp_put, AH.mp_setTok] at *; assumption))))) fun i hi => .of_vg hm ?_
  obtain ⟨hi, ha⟩ := hi
  by_cases h5 : i < a.length
  · have hc : (i : Int) < (a.length : Int) := by omega
    by_cases h6 : 0 ≤ (a.getD i (0, 0)).1 ∧ (a.getD i (0, 0)).1 < n ∧ 0 ≤ (a.getD i (0, 0)).2 ∧ (a.getD i (0, 0)).2 < n ∧ (a.getD i (0, 0)).1 ≠ (a.getD i (0, 0)).2
    · have k1 : ¬ (a.getD i (0, 0)).1 < 0 := by omega
      have k2 : ¬ n ≤ (a.getD i (0, 0)).1 := by omega
      have k3 : ¬ (a.getD i (0, 0)).2 < 0 := by omega
      have k4 : ¬ n ≤ (a.getD i (0, 0)).2 := by omega
      have k5 := h6.2.2.2.2
      by_cases h7 : i = 0
      · subst h7
        simp only [hc, prs_drop h5, k1, k2, k3, k4, k5, F_poset_Valid, g_poset_Valid, go_sem, reduceIte, Nat.reduceEqDiff, Nat.reduceAdd, Nat.reduceMul, Nat.reduceSub, reduceCtorEq, Nat.reduceLeDiff, Nat.reduceLT, Int.reduceLT, Int.reduceLE, Int.reduceToNat, Int.reduceAdd, Int.reduceSub, Int.reduceNeg, Int.reduceMul, Int.reduceEq, ← Bool.decide_and, ← Bool.decide_or, ↓tq_n, ↓tq_e, ↓tq_r, ↓bq_n, ↓bq_e, ↓bq_r, ↓rq_n, ↓rq_r, ↓rq_e]
        refine ⟨fun hh => by omega, fun _ => ⟨by rw [inR64]; omega, 1, ⟨by omega, fun j hj => by rw [show j = 0 by omega]; exact ⟨h6, fun hh => by omega⟩⟩, by omega, (GStep.forget (by repeat' first | exact EnvLe.nil _ | refine EnvLe.cons (AV.le.of_eq rfl) ?_ | refine EnvLe.cons (AV.le.undef _) ?_ | refine EnvLe.cons AV.le.unk ?_) (by repeat' first | exact AH.le.refl _ | assumption | (refine AH.le_put ?_ (by first | assumption | exact (AH.blk_put_ne _ _ (by assumption)).trans (by assumption) | exact AH.none_put (by assumption) | exact AH.none_put (AH.none_put (by assumption)) | (simp only [AH.blk_setTok, AH.tok_put] at *; first | assumption | exact AH.none_put (by assumption)))) | (refine AH.le_setTok ?_ (by first | assumption | exact (AH.blk_put_ne _ _ (by assumption)).trans (by assumption) | exact AH.none_put (by assumption) | exact AH.none_put (AH.none_put (by assumption)) | (simp only [AH.blk_setTok, AH.tok_put] at *; first | assumption | exact AH.none_put (by assumption)))) | (refine AH.le_putM ?_ (by first | assumption | exact (AH.mp_putM_ne _ _ (by assumption)).trans (by assumption) | (simp only [AH.mp_put, AH.mp_setTok] at *; assumption)))))⟩⟩
      have h8 : (0 : Int) < (i : Int) := by omega
      have e8 : ((i : Int) - 1).toNat = i - 1 := by omega
      have h9 : i - 1 < a.length := by omega
      have hr1 : InR .i64 ((i : Int) - 1) := by rw [inR64]; omega
      have hr2 : (0 : Int) ≤ (i : Int) - 1 := by omega
      have hr3 : (i : Int) - 1 < (a.length : Int) := by omega
      by_cases k6 : (a.getD (i - 1) (0, 0)).1 < (a.getD i (0, 0)).1 ∨ (a.getD (i - 1) (0, 0)).1 = (a.getD i (0, 0)).1 ∧ (a.getD (i - 1) (0, 0)).2 < (a.getD i (0, 0)).2
      · have hstep : ∀ j, j < i + 1 → DgA n a j := all_succ ha ⟨h6, fun _ => k6⟩
        have k7 : ¬ (a.getD i (0, 0)).1 < (a.getD (i - 1) (0, 0)).1 := by omega
        by_cases k8 : (a.getD i (0, 0)).1 = (a.getD (i - 1) (0, 0)).1
        · have k8' : decide ((a.getD i (0, 0)).1 = (a.getD (i - 1) (0, 0)).1) = true := decide_eq_true k8
          have k9 : ¬ (a.getD i (0, 0)).2 ≤ (a.getD (i - 1) (0, 0)).2 := by omega
          simp only [hc, prs_drop h5, k1, k2, k3, k4, k5, h8, e8, hr1, hr2, hr3, prs_drop h9, k7, k8', k9, F_poset_Valid, g_poset_Valid, go_sem, reduceIte, Nat.reduceEqDiff, Nat.reduceAdd, Nat.reduceMul, Nat.reduceSub, reduceCtorEq, Nat.reduceLeDiff, Nat.reduceLT, Int.reduceLT, Int.reduceLE, Int.reduceToNat, Int.reduceAdd, Int.reduceSub, Int.reduceNeg, Int.reduceMul, Int.reduceEq, ← Bool.decide_and, ← Bool.decide_or, ↓tq_n, ↓tq_e, ↓tq_r, ↓bq_n, ↓bq_e, ↓bq_r, ↓rq_n, ↓rq_r, ↓rq_e]
          exact ⟨by rw [inR64]; omega, i + 1, ⟨by omega, hstep⟩, by omega, (GStep.forget (by repeat' first | exact EnvLe.nil _ | refine EnvLe.cons (AV.le.of_eq rfl) ?_ | refine EnvLe.cons (AV.le.undef _) ?_ | refine EnvLe.cons AV.le.unk ?_) (by repeat' first | exact AH.le.refl _ | assumption | (refine AH.le_put ?_ (by first | assumption | exact (AH.blk_put_ne _ _ (by assumption)).trans (by assumption) | exact AH.none_put (by assumption) | exact AH.none_put (AH.none_put (by assumption)) | (simp only [AH.blk_setTok, AH.tok_put] at *; first | assumption | exact AH.none_put (by assumption)))) | (refine AH.le_setTok ?_ (by first | assumption | exact (AH.blk_put_ne _ _ (by assumption)).trans (by assumption) | exact AH.none_put (by assumption) | exact AH.none_put (AH.none_put (by assumption)) | (simp only [AH.blk_setTok, AH.tok_put] at *; first | assumption | exact AH.none_put (by assumption)))) | (refine AH.le_putM ?_ (by first | assumption | exact (AH.mp_putM_ne _ _ (by assumption)).trans (by assumption) | (simp only [AH.mp_put, AH.mp_setTok] at *; assumption)))))⟩
        · simp only [hc, prs_drop h5, k1, k2, k3, k4, k5, h8, e8, hr1, hr2, hr3, prs_drop h9, k7, k8, F_poset_Valid, g_poset_Valid, go_sem, reduceIte, Nat.reduceEqDiff, Nat.reduceAdd, Nat.reduceMul, Nat.reduceSub, reduceCtorEq, Nat.reduceLeDiff, Nat.reduceLT, Int.reduceLT, Int.reduceLE, Int.reduceToNat, Int.reduceAdd, Int.reduceSub, Int.reduceNeg, Int.reduceMul, Int.reduceEq, ← Bool.decide_and, ← Bool.decide_or, ↓tq_n, ↓tq_e, ↓tq_r, ↓bq_n, ↓bq_e, ↓bq_r, ↓rq_n, ↓rq_r, ↓rq_e]
          exact ⟨by rw [inR64]; omega, i + 1, ⟨by omega, hstep⟩, by omega, (GStep.forget (by repeat' first | exact EnvLe.nil _ | refine EnvLe.cons (AV.le.of_eq rfl) ?_ | refine EnvLe.cons (AV.le.undef _) ?_ | refine EnvLe.cons AV.le.unk ?_) (by repeat' first | exact AH.le.refl _ | assumption | (refine AH.le_put ?_ (by first | assumption | exact (AH.blk_put_ne _ _ (by assumption)).trans (by assumption) | exact AH.none_put (by assumption) | exact AH.none_put (AH.none_put (by assumption)) | (simp only [AH.blk_setTok, AH.tok_put] at *; first | assumption | exact AH.none_put (by assumption)))) | (refine AH.le_setTok ?_ (by first | assumption | exact (AH.blk_put_ne _ _ (by assumption)).trans (by assumption) | exact AH.none_put (by assumption) | exact AH.none_put (AH.none_put (by assumption)) | (simp only [AH.blk_setTok, AH.tok_put] at *; first | assumption | exact AH.none_put (by assumption)))) | (refine AH.le_putM ?_ (by first | assumption | exact (AH.mp_putM_ne _ _ (by assumption)).trans (by assumption) | (simp only [AH.mp_put, AH.mp_setTok] at *; assumption)))))⟩
      · have no : decide (Dg n a) = false := decide_eq_false fun hh => k6 ((hh.2.2 i h5).2 (by omega))
        by_cases k7 : (a.getD i (0, 0)).1 < (a.getD (i - 1) (0, 0)).1
        · simp only [hc, prs_drop h5, k1, k2, k3, k4, k5, h8, e8, hr1, hr2, hr3, prs_drop h9, k7, F_poset_Valid, g_poset_Valid, go_sem, reduceIte, Nat.reduceEqDiff, Nat.reduceAdd, Nat.reduceMul, Nat.reduceSub, reduceCtorEq, Nat.reduceLeDiff, Nat.reduceLT, Int.reduceLT, Int.reduceLE, Int.reduceToNat, Int.reduceAdd, Int.reduceSub, Int.reduceNeg, Int.reduceMul, Int.reduceEq, ← Bool.decide_and, ← Bool.decide_or, ↓tq_n, ↓tq_e, ↓tq_r, ↓bq_n, ↓bq_e, ↓bq_r, ↓rq_n, ↓rq_r, ↓rq_e]
          exact ret_ok (by rw [no])
        · have k8' : decide ((a.getD i (0, 0)).1 = (a.getD (i - 1) (0, 0)).1) = true := decide_eq_true (by omega)
          have k9 : (a.getD i (0, 0)).2 ≤ (a.getD (i - 1) (0, 0)).2 := by omega
          simp only [hc, prs_drop h5, k1, k2, k3, k4, k5, h8, e8, hr1, hr2, hr3, prs_drop h9, k7, k8', k9, F_poset_Valid, g_poset_Valid, go_sem, reduceIte, Nat.reduceEqDiff, Nat.reduceAdd, Nat.reduceMul, Nat.reduceSub, reduceCtorEq, Nat.reduceLeDiff, Nat.reduceLT, Int.reduceLT, Int.reduceLE, Int.reduceToNat, Int.reduceAdd, Int.reduceSub, Int.reduceNeg, Int.reduceMul, Int.reduceEq, ← Bool.decide_and, ← Bool.decide_or, ↓tq_n, ↓tq_e, ↓tq_r, ↓bq_n, ↓bq_e, ↓bq_r, ↓rq_n, ↓rq_r, ↓rq_e]
          exact ret_ok (by rw [no])
    · have no : decide (Dg n a) = false := decide_eq_false fun hh => h6 (hh.2.2 i h5).1
      by_cases k1 : (a.getD i (0, 0)).1 < 0
      · simp only [hc, prs_drop h5, k1, F_poset_Valid, g_poset_Valid, go_sem, reduceIte, Nat.reduceEqDiff, Nat.reduceAdd, Nat.reduceMul, Nat.reduceSub, reduceCtorEq, Nat.reduceLeDiff, Nat.reduceLT, Int.reduceLT, Int.reduceLE, Int.reduceToNat, Int.reduceAdd, Int.reduceSub, Int.reduceNeg, Int.reduceMul, Int.reduceEq, ← Bool.decide_and, ← Bool.decide_or, ↓tq_n, ↓tq_e, ↓tq_r, ↓bq_n, ↓bq_e, ↓bq_r, ↓rq_n, ↓rq_r, ↓rq_e]
        exact ret_ok (by rw [no])
      by_cases k2 : n ≤ (a.getD i (0, 0)).1
      · simp only [hc, prs_drop h5, k1, k2, F_poset_Valid, g_poset_Valid, go_sem, reduceIte, Nat.reduceEqDiff, Nat.reduceAdd, Nat.reduceMul, Nat.reduceSub, reduceCtorEq, Nat.reduceLeDiff, Nat.reduceLT, Int.reduceLT, Int.reduceLE, Int.reduceToNat, Int.reduceAdd, Int.reduceSub, Int.reduceNeg, Int.reduceMul, Int.reduceEq, ← Bool.decide_and, ← Bool.decide_or, ↓tq_n, ↓tq_e, ↓tq_r, ↓bq_n, ↓bq_e, ↓bq_r, ↓rq_n, ↓rq_r, ↓rq_e]
        exact ret_ok (by rw [no])
      by_cases k3 : (a.getD i (0, 0)).2 < 0
      · simp only [hc, prs_drop h5, k1, k2, k3, F_poset_Valid, g_poset_Valid, go_sem, reduceIte, Nat.reduceEqDiff, Nat.reduceAdd, Nat.reduceMul, Nat.reduceSub, reduceCtorEq, Nat.reduceLeDiff, Nat.reduceLT, Int.reduceLT, Int.reduceLE, Int.reduceToNat, Int.reduceAdd, Int.reduceSub, Int.reduceNeg, Int.reduceMul, Int.reduceEq, ← Bool.decide_and, ← Bool.decide_or, ↓tq_n, ↓tq_e, ↓tq_r, ↓bq_n, ↓bq_e, ↓bq_r, ↓rq_n, ↓rq_r, ↓rq_e]
        exact ret_ok (by rw [no])
      by_cases k4 : n ≤ (a.getD i (0, 0)).2
      · simp only [hc, prs_drop h5, k1, k2, k3, k4, F_poset_Valid, g_poset_Valid, go_sem, reduceIte, Nat.reduceEqDiff, Nat.reduceAdd, Nat.reduceMul, Nat.reduceSub, reduceCtorEq, Nat.reduceLeDiff, Nat.reduceLT, Int.reduceLT, Int.reduceLE, Int.reduceToNat, Int.reduceAdd, Int.reduceSub, Int.reduceNeg, Int.reduceMul, Int.reduceEq, ← Bool.decide_and, ← Bool.decide_or, ↓tq_n, ↓tq_e, ↓tq_r, ↓bq_n, ↓bq_e, ↓bq_r, ↓rq_n, ↓rq_r, ↓rq_e]
        exact ret_ok (by rw [no])
      by_cases k5 : (a.getD i (0, 0)).1 = (a.getD i (0, 0)).2
      · have k5' : decide ((a.getD i (0, 0)).1 = (a.getD i (0, 0)).2) = true := decide_eq_true k5
        simp only [hc, prs_drop h5, k1, k2, k3, k4, k5', F_poset_Valid, g_poset_Valid, go_sem, reduceIte, Nat.reduceEqDiff, Nat.reduceAdd, Nat.reduceMul, Nat.reduceSub, reduceCtorEq, Nat.reduceLeDiff, Nat.reduceLT, Int.reduceLT, Int.reduceLE, Int.reduceToNat, Int.reduceAdd, Int.reduceSub, Int.reduceNeg, Int.reduceMul, Int.reduceEq, ← Bool.decide_and, ← Bool.decide_or, ↓tq_n, ↓tq_e, ↓tq_r, ↓bq_n, ↓bq_e, ↓bq_r, ↓rq_n, ↓rq_r, ↓rq_e]
        exact ret_ok (by rw [no])
      exact absurd ⟨by omega, by omega, by omega, by omega, k5⟩ h6
  have h5 : i = a.length := by omega
  subst h5
  simp only [F_poset_Valid, g_poset_Valid, go_sem, reduceIte, Nat.reduceEqDiff, Nat.reduceAdd, Nat.reduceMul, Nat.reduceSub, reduceCtorEq, Nat.reduceLeDiff, Nat.reduceLT, Int.reduceLT, Int.reduceLE, Int.reduceToNat, Int.reduceAdd, Int.reduceSub, Int.reduceNeg, Int.reduceMul, Int.reduceEq, ← Bool.decide_and, ← Bool.decide_or, ↓tq_n, ↓tq_e, ↓tq_r, ↓bq_n, ↓bq_e, ↓bq_r, ↓rq_n, ↓rq_r, ↓rq_e]
  exact ret_ok (by rw [decide_eq_true ⟨by omega, by omega, ha⟩])

/-- The closure as the code computes it. -/
def posR (n : Nat) (a : List (Int × Int)) : List Nat := wr n (nxt n a a.length) n
theorem Dg.arc {n : Nat} {a : List (Int × Int)} (h : Dg n a) : ∀ i, i < a.length → Arc n (a.getD i (0, 0)) := fun i hi => by
  have := (h.2.2 i hi).1
  exact ⟨this.1, this.2.1, this.2.2.1, this.2.2.2.1⟩
theorem posR_len (n : Nat) (a : List (Int × Int)) : (posR n a).length = n := by unfold posR; rw [wr_len, nxt_len]
theorem posR_sm {n : Nat} {a : List (Int × Int)} (h : Dg n a) : Sm (posR n a) := wr_sm (nxt_sm (by have := h.2.1; omega) (fun i hi => (h.arc i hi).2.2.2) _ (Nat.le_refl _)) n
theorem r_poset_Closure (n : Nat) (nl : Bool) (a : List (Int × Int)) (tl : Tail) (hal : a.length ≤ 1000) (h : AH) : RCall Try.prog n_poset_ClosureW [I n, .sl nl a.length (prs a) tl] h
    (if Dg n a then .tup [gl (prs (lsI (posR n a) n)) (lsI (posR n a) n).length .unk, I 0] else .tup [.sl true 0 [] .full, I 1]) := by
  refine RCall.of hm cF_poset_ClosureW (by simp [g_poset_ClosureW]) fun hw h' hl => ?_
  simp only [F_poset_ClosureW, g_poset_ClosureW, go_sem, reduceIte, Nat.reduceEqDiff, Nat.reduceAdd, Nat.reduceMul, Nat.reduceSub, reduceCtorEq, Nat.reduceLeDiff, Nat.reduceLT, Int.reduceLT, Int.reduceLE, Int.reduceToNat, Int.reduceAdd, Int.reduceSub, Int.reduceNeg, Int.reduceMul, Int.reduceEq, ← Bool.decide_and, ← Bool.decide_or, ↓tq_n, ↓tq_e, ↓tq_r, ↓bq_n, ↓bq_e, ↓bq_r, ↓rq_n, ↓rq_r, ↓rq_e]
  refine CallG.mk (r_poset_Valid n nl a tl _) ?_
  by_cases hd : Dg n a
  · have hn : n ≤ 24 := by have := hd.2.1; omega
    rw [decide_eq_true hd, if_pos hd]
    simp only [F_poset_ClosureW, g_poset_ClosureW, go_sem, reduceIte, Nat.reduceEqDiff, Nat.reduceAdd, Nat.reduceMul, Nat.reduceSub, reduceCtorEq, Nat.reduceLeDiff, Nat.reduceLT, Int.reduceLT, Int.reduceLE, Int.reduceToNat, Int.reduceAdd, Int.reduceSub, Int.reduceNeg, Int.reduceMul, Int.reduceEq, ← Bool.decide_and, ← Bool.decide_or, ↓tq_n, ↓tq_e, ↓tq_r, ↓bq_n, ↓bq_e, ↓bq_r, ↓rq_n, ↓rq_r, ↓rq_e]
    refine CallS.mk (s_poset_reach n hn nl a tl hd.arc hal _) fun r h'' hr => ?_
    obtain ⟨b, hb, rfl, rfl⟩ := hr
    simp only [F_poset_ClosureW, g_poset_ClosureW, go_sem, reduceIte, Nat.reduceEqDiff, Nat.reduceAdd, Nat.reduceMul, Nat.reduceSub, reduceCtorEq, Nat.reduceLeDiff, Nat.reduceLT, Int.reduceLT, Int.reduceLE, Int.reduceToNat, Int.reduceAdd, Int.reduceSub, Int.reduceNeg, Int.reduceMul, Int.reduceEq, ← Bool.decide_and, ← Bool.decide_or, ↓tq_n, ↓tq_e, ↓tq_r, ↓bq_n, ↓bq_e, ↓bq_r, ↓rq_n, ↓rq_r, ↓rq_e]
    refine CallG.mk (r_poset_list b n (posR n a) (posR_len n a) hn (posR_sm hd) _ (AH.blk_put _ _ _)) ?_
    simp only [F_poset_ClosureW, g_poset_ClosureW, go_sem, reduceIte, Nat.reduceEqDiff, Nat.reduceAdd, Nat.reduceMul, Nat.reduceSub, reduceCtorEq, Nat.reduceLeDiff, Nat.reduceLT, Int.reduceLT, Int.reduceLE, Int.reduceToNat, Int.reduceAdd, Int.reduceSub, Int.reduceNeg, Int.reduceMul, Int.reduceEq, ← Bool.decide_and, ← Bool.decide_or, ↓tq_n, ↓tq_e, ↓tq_r, ↓bq_n, ↓bq_e, ↓bq_r, ↓rq_n, ↓rq_r, ↓rq_e]
    exact ret_hb (AH.le_new _ _ hb) rfl
  · rw [decide_eq_false hd, if_neg hd]
    simp only [F_poset_ClosureW, g_poset_ClosureW, go_sem, reduceIte, Nat.reduceEqDiff, Nat.reduceAdd, Nat.reduceMul, Nat.reduceSub, reduceCtorEq, Nat.reduceLeDiff, Nat.reduceLT, Int.reduceLT, Int.reduceLE, Int.reduceToNat, Int.reduceAdd, Int.reduceSub, Int.reduceNeg, Int.reduceMul, Int.reduceEq, ← Bool.decide_and, ← Bool.decide_or, ↓tq_n, ↓tq_e, ↓tq_r, ↓bq_n, ↓bq_e, ↓bq_r, ↓rq_n, ↓rq_r, ↓rq_e]
    exact ret_ok rfl
theorem r_poset_Acyclic (n : Nat) (nl : Bool) (a : List (Int × Int)) (tl : Tail) (hal : a.length ≤ 1000) (h : AH) : RCall Try.prog n_poset_AcyclicW [I n, .sl nl a.length (prs a) tl] h
    (.bool (decide (Dg n a) && acI (posR n a) n)) := by
  refine RCall.of hm cF_poset_AcyclicW (by simp [g_poset_AcyclicW]) fun hw h' hl => ?_
  simp only [F_poset_AcyclicW, g_poset_AcyclicW, go_sem, reduceIte, Nat.reduceEqDiff, Nat.reduceAdd, Nat.reduceMul, Nat.reduceSub, reduceCtorEq, Nat.reduceLeDiff, Nat.reduceLT, Int.reduceLT, Int.reduceLE, Int.reduceToNat, Int.reduceAdd, Int.reduceSub, Int.reduceNeg, Int.reduceMul, Int.reduceEq, ← Bool.decide_and, ← Bool.decide_or, ↓tq_n, ↓tq_e, ↓tq_r, ↓bq_n, ↓bq_e, ↓bq_r, ↓rq_n, ↓rq_r, ↓rq_e]
  refine CallG.mk (r_poset_Valid n nl a tl _) ?_
  by_cases hd : Dg n a
  · have hn : n ≤ 24 := by have := hd.2.1; omega
    rw [decide_eq_true hd]
    simp only [F_poset_AcyclicW, g_poset_AcyclicW, go_sem, reduceIte, Nat.reduceEqDiff, Nat.reduceAdd, Nat.reduceMul, Nat.reduceSub, reduceCtorEq, Nat.reduceLeDiff, Nat.reduceLT, Int.reduceLT, Int.reduceLE, Int.reduceToNat, Int.reduceAdd, Int.reduceSub, Int.reduceNeg, Int.reduceMul, Int.reduceEq, ← Bool.decide_and, ← Bool.decide_or, ↓tq_n, ↓tq_e, ↓tq_r, ↓bq_n, ↓bq_e, ↓bq_r, ↓rq_n, ↓rq_r, ↓rq_e]
    refine CallS.mk (s_poset_reach n hn nl a tl hd.arc hal _) fun r h'' hr => ?_
    obtain ⟨b, hb, rfl, rfl⟩ := hr
    simp only [F_poset_AcyclicW, g_poset_AcyclicW, go_sem, reduceIte, Nat.reduceEqDiff, Nat.reduceAdd, Nat.reduceMul, Nat.reduceSub, reduceCtorEq, Nat.reduceLeDiff, Nat.reduceLT, Int.reduceLT, Int.reduceLE, Int.reduceToNat, Int.reduceAdd, Int.reduceSub, Int.reduceNeg, Int.reduceMul, Int.reduceEq, ← Bool.decide_and, ← Bool.decide_or, ↓tq_n, ↓tq_e, ↓tq_r, ↓bq_n, ↓bq_e, ↓bq_r, ↓rq_n, ↓rq_r, ↓rq_e]
    refine CallG.mk (r_poset_acyclic b n (posR n a) (posR_len n a) hn (posR_sm hd) _ (AH.blk_put _ _ _)) ?_
    simp only [F_poset_AcyclicW, g_poset_AcyclicW, go_sem, reduceIte, Nat.reduceEqDiff, Nat.reduceAdd, Nat.reduceMul, Nat.reduceSub, reduceCtorEq, Nat.reduceLeDiff, Nat.reduceLT, Int.reduceLT, Int.reduceLE, Int.reduceToNat, Int.reduceAdd, Int.reduceSub, Int.reduceNeg, Int.reduceMul, Int.reduceEq, ← Bool.decide_and, ← Bool.decide_or, ↓tq_n, ↓tq_e, ↓tq_r, ↓bq_n, ↓bq_e, ↓bq_r, ↓rq_n, ↓rq_r, ↓rq_e]
    exact ret_hb (AH.le_new _ _ hb) (by simp)
  · rw [decide_eq_false hd]
    simp only [F_poset_AcyclicW, g_poset_AcyclicW, go_sem, reduceIte, Nat.reduceEqDiff, Nat.reduceAdd, Nat.reduceMul, Nat.reduceSub, reduceCtorEq, Nat.reduceLeDiff, Nat.reduceLT, Int.reduceLT, Int.reduceLE, Int.reduceToNat, Int.reduceAdd, Int.reduceSub, Int.reduceNeg, Int.reduceMul, Int.reduceEq, ← Bool.decide_and, ← Bool.decide_or, ↓tq_n, ↓tq_e, ↓tq_r, ↓bq_n, ↓bq_e, ↓bq_r, ↓rq_n, ↓rq_r, ↓rq_e]
    exact ret_ok (by simp)
end Go.Proofs.Ytnekkkjedmlloaa
