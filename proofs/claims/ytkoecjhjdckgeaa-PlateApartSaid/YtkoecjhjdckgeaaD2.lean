/- Calls of functions of this seat's program: pages, items that fit, single items and spots. No condition. -/
import Derived.Test.YtkoecjhjdckgeaaD1
namespace Go.Proofs.Ytkoecjhjdckgeaa
open Go Go.Abs
set_option linter.unusedSimpArgs false
set_option linter.unusedVariables false
set_option maxRecDepth 20000

theorem r_plate_check (nl : Bool) (l : List It) (tl : Tail) (p : It) (h : AH) : RCall Try.prog n_plate_check [.sl nl l.length (trs l) tl, i3 p] h (I (gvQ l p)) := by
  refine RCall.of hm cF_plate_check (by simp [g_plate_check]) fun hw h' hl => ?_
  simp only [F_plate_check, g_plate_check, go_sem, reduceIte, Nat.reduceEqDiff, Nat.reduceAdd, Nat.reduceMul, Nat.reduceSub, reduceCtorEq, Nat.reduceLeDiff, Nat.reduceLT, Int.reduceLT, Int.reduceLE, Int.reduceToNat, Int.reduceAdd, Int.reduceSub, Int.reduceNeg, Int.reduceMul, Int.reduceEq, ← Bool.decide_and, ← Bool.decide_or, ↓tq_n, ↓tq_e, ↓tq_r, ↓bq_n, ↓bq_e, ↓bq_r, ↓rq_n, ↓rq_r, ↓rq_e]
  refine CallG.mk (r_plate_items _ _ _ _) ?_
  simp only [F_plate_check, g_plate_check, go_sem, reduceIte, Nat.reduceEqDiff, Nat.reduceAdd, Nat.reduceMul, Nat.reduceSub, reduceCtorEq, Nat.reduceLeDiff, Nat.reduceLT, Int.reduceLT, Int.reduceLE, Int.reduceToNat, Int.reduceAdd, Int.reduceSub, Int.reduceNeg, Int.reduceMul, Int.reduceEq, ← Bool.decide_and, ← Bool.decide_or, ↓tq_n, ↓tq_e, ↓tq_r, ↓bq_n, ↓bq_e, ↓bq_r, ↓rq_n, ↓rq_r, ↓rq_e]
  refine ⟨fun h0 => ?_, fun h0 => ?_⟩
  · exact ret_ok (by rw [gvQ, if_neg (fun hh => h0 hh.1)])
  have no : ¬ pgOK p → gvQ l p = 1 := fun hn => by rw [gvQ, if_pos ⟨h0, hn⟩]
  refine CallG.mk (r_plate_in _ _ _ _) ?_
  by_cases h4 : 20 ≤ p.1 ∧ p.1 ≤ 400
  case neg =>
    simp only [decide_eq_false h4, F_plate_check, g_plate_check, go_sem, reduceIte, Nat.reduceEqDiff, Nat.reduceAdd, Nat.reduceMul, Nat.reduceSub, reduceCtorEq, Nat.reduceLeDiff, Nat.reduceLT, Int.reduceLT, Int.reduceLE, Int.reduceToNat, Int.reduceAdd, Int.reduceSub, Int.reduceNeg, Int.reduceMul, Int.reduceEq, ← Bool.decide_and, ← Bool.decide_or, ↓tq_n, ↓tq_e, ↓tq_r, ↓bq_n, ↓bq_e, ↓bq_r, ↓rq_n, ↓rq_r, ↓rq_e]
    exact ret_ok (by rw [no (fun hc => h4 hc.1)])
  simp only [decide_eq_true h4, F_plate_check, g_plate_check, go_sem, reduceIte, Nat.reduceEqDiff, Nat.reduceAdd, Nat.reduceMul, Nat.reduceSub, reduceCtorEq, Nat.reduceLeDiff, Nat.reduceLT, Int.reduceLT, Int.reduceLE, Int.reduceToNat, Int.reduceAdd, Int.reduceSub, Int.reduceNeg, Int.reduceMul, Int.reduceEq, ← Bool.decide_and, ← Bool.decide_or, ↓tq_n, ↓tq_e, ↓tq_r, ↓bq_n, ↓bq_e, ↓bq_r, ↓rq_n, ↓rq_r, ↓rq_e]
  refine CallG.mk (r_plate_in _ _ _ _) ?_
  by_cases h5 : 20 ≤ p.2.1 ∧ p.2.1 ≤ 400
  case neg =>
    simp only [decide_eq_false h5, F_plate_check, g_plate_check, go_sem, reduceIte, Nat.reduceEqDiff, Nat.reduceAdd, Nat.reduceMul, Nat.reduceSub, reduceCtorEq, Nat.reduceLeDiff, Nat.reduceLT, Int.reduceLT, Int.reduceLE, Int.reduceToNat, Int.reduceAdd, Int.reduceSub, Int.reduceNeg, Int.reduceMul, Int.reduceEq, ← Bool.decide_and, ← Bool.decide_or, ↓tq_n, ↓tq_e, ↓tq_r, ↓bq_n, ↓bq_e, ↓bq_r, ↓rq_n, ↓rq_r, ↓rq_e]
    exact ret_ok (by rw [no (fun hc => h5 hc.2.1)])
  simp only [decide_eq_true h5, F_plate_check, g_plate_check, go_sem, reduceIte, Nat.reduceEqDiff, Nat.reduceAdd, Nat.reduceMul, Nat.reduceSub, reduceCtorEq, Nat.reduceLeDiff, Nat.reduceLT, Int.reduceLT, Int.reduceLE, Int.reduceToNat, Int.reduceAdd, Int.reduceSub, Int.reduceNeg, Int.reduceMul, Int.reduceEq, ← Bool.decide_and, ← Bool.decide_or, ↓tq_n, ↓tq_e, ↓tq_r, ↓bq_n, ↓bq_e, ↓bq_r, ↓rq_n, ↓rq_r, ↓rq_e]
  refine CallG.mk (r_plate_in _ _ _ _) ?_
  by_cases h6 : 0 ≤ p.2.2 ∧ p.2.2 ≤ 10
  case neg =>
    simp only [decide_eq_false h6, F_plate_check, g_plate_check, go_sem, reduceIte, Nat.reduceEqDiff, Nat.reduceAdd, Nat.reduceMul, Nat.reduceSub, reduceCtorEq, Nat.reduceLeDiff, Nat.reduceLT, Int.reduceLT, Int.reduceLE, Int.reduceToNat, Int.reduceAdd, Int.reduceSub, Int.reduceNeg, Int.reduceMul, Int.reduceEq, ← Bool.decide_and, ← Bool.decide_or, ↓tq_n, ↓tq_e, ↓tq_r, ↓bq_n, ↓bq_e, ↓bq_r, ↓rq_n, ↓rq_r, ↓rq_e]
    exact ret_ok (by rw [no (fun hc => h6 hc.2.2)])
  simp only [decide_eq_true h6, F_plate_check, g_plate_check, go_sem, reduceIte, Nat.reduceEqDiff, Nat.reduceAdd, Nat.reduceMul, Nat.reduceSub, reduceCtorEq, Nat.reduceLeDiff, Nat.reduceLT, Int.reduceLT, Int.reduceLE, Int.reduceToNat, Int.reduceAdd, Int.reduceSub, Int.reduceNeg, Int.reduceMul, Int.reduceEq, ← Bool.decide_and, ← Bool.decide_or, ↓tq_n, ↓tq_e, ↓tq_r, ↓bq_n, ↓bq_e, ↓bq_r, ↓rq_n, ↓rq_r, ↓rq_e]
  exact ret_ok (by rw [gvQ, if_neg (fun hh => hh.2 ⟨h4, h5, h6⟩), h0])
theorem r_ref_given (nl : Bool) (l : List It) (tl : Tail) (p : It) (h : AH) : RCall Try.prog n_ref_given [.sl nl l.length (trs l) tl, i3 p] h (I (gvQ l p)) := by
  refine RCall.of hm cF_ref_given (by simp [g_ref_given]) fun hw h' hl => ?_
  simp only [F_ref_given, g_ref_given, go_sem, reduceIte, Nat.reduceEqDiff, Nat.reduceAdd, Nat.reduceMul, Nat.reduceSub, reduceCtorEq, Nat.reduceLeDiff, Nat.reduceLT, Int.reduceLT, Int.reduceLE, Int.reduceToNat, Int.reduceAdd, Int.reduceSub, Int.reduceNeg, Int.reduceMul, Int.reduceEq, ← Bool.decide_and, ← Bool.decide_or, ↓tq_n, ↓tq_e, ↓tq_r, ↓bq_n, ↓bq_e, ↓bq_r, ↓rq_n, ↓rq_r, ↓rq_e]
  refine CallG.mk (r_ref_items _ _ _ _) ?_
  by_cases h0 : itQ l = 0
  case neg =>
    simp only [h0, F_ref_given, g_ref_given, go_sem, reduceIte, Nat.reduceEqDiff, Nat.reduceAdd, Nat.reduceMul, Nat.reduceSub, reduceCtorEq, Nat.reduceLeDiff, Nat.reduceLT, Int.reduceLT, Int.reduceLE, Int.reduceToNat, Int.reduceAdd, Int.reduceSub, Int.reduceNeg, Int.reduceMul, Int.reduceEq, ← Bool.decide_and, ← Bool.decide_or, ↓tq_n, ↓tq_e, ↓tq_r, ↓bq_n, ↓bq_e, ↓bq_r, ↓rq_n, ↓rq_r, ↓rq_e]
    exact ret_ok (by rw [gvQ, if_neg (fun hh => h0 hh.1)])
  have no : ¬ pgOK p → gvQ l p = 1 := fun hn => by rw [gvQ, if_pos ⟨h0, hn⟩]
  simp only [h0, F_ref_given, g_ref_given, go_sem, reduceIte, Nat.reduceEqDiff, Nat.reduceAdd, Nat.reduceMul, Nat.reduceSub, reduceCtorEq, Nat.reduceLeDiff, Nat.reduceLT, Int.reduceLT, Int.reduceLE, Int.reduceToNat, Int.reduceAdd, Int.reduceSub, Int.reduceNeg, Int.reduceMul, Int.reduceEq, ← Bool.decide_and, ← Bool.decide_or, ↓tq_n, ↓tq_e, ↓tq_r, ↓bq_n, ↓bq_e, ↓bq_r, ↓rq_n, ↓rq_r, ↓rq_e]
  refine CallG.mk (r_base_In _ _ _ _) ?_
  by_cases h4 : 20 ≤ p.1 ∧ p.1 ≤ 400
  case neg =>
    simp only [decide_eq_false h4, F_ref_given, g_ref_given, go_sem, reduceIte, Nat.reduceEqDiff, Nat.reduceAdd, Nat.reduceMul, Nat.reduceSub, reduceCtorEq, Nat.reduceLeDiff, Nat.reduceLT, Int.reduceLT, Int.reduceLE, Int.reduceToNat, Int.reduceAdd, Int.reduceSub, Int.reduceNeg, Int.reduceMul, Int.reduceEq, ← Bool.decide_and, ← Bool.decide_or, ↓tq_n, ↓tq_e, ↓tq_r, ↓bq_n, ↓bq_e, ↓bq_r, ↓rq_n, ↓rq_r, ↓rq_e]
    exact ret_ok (by rw [no (fun hc => h4 hc.1)])
  simp only [decide_eq_true h4, F_ref_given, g_ref_given, go_sem, reduceIte, Nat.reduceEqDiff, Nat.reduceAdd, Nat.reduceMul, Nat.reduceSub, reduceCtorEq, Nat.reduceLeDiff, Nat.reduceLT, Int.reduceLT, Int.reduceLE, Int.reduceToNat, Int.reduceAdd, Int.reduceSub, Int.reduceNeg, Int.reduceMul, Int.reduceEq, ← Bool.decide_and, ← Bool.decide_or, ↓tq_n, ↓tq_e, ↓tq_r, ↓bq_n, ↓bq_e, ↓bq_r, ↓rq_n, ↓rq_r, ↓rq_e]
  refine CallG.mk (r_base_In _ _ _ _) ?_
  by_cases h5 : 20 ≤ p.2.1 ∧ p.2.1 ≤ 400
  case neg =>
    simp only [decide_eq_false h5, F_ref_given, g_ref_given, go_sem, reduceIte, Nat.reduceEqDiff, Nat.reduceAdd, Nat.reduceMul, Nat.reduceSub, reduceCtorEq, Nat.reduceLeDiff, Nat.reduceLT, Int.reduceLT, Int.reduceLE, Int.reduceToNat, Int.reduceAdd, Int.reduceSub, Int.reduceNeg, Int.reduceMul, Int.reduceEq, ← Bool.decide_and, ← Bool.decide_or, ↓tq_n, ↓tq_e, ↓tq_r, ↓bq_n, ↓bq_e, ↓bq_r, ↓rq_n, ↓rq_r, ↓rq_e]
    exact ret_ok (by rw [no (fun hc => h5 hc.2.1)])
  simp only [decide_eq_true h5, F_ref_given, g_ref_given, go_sem, reduceIte, Nat.reduceEqDiff, Nat.reduceAdd, Nat.reduceMul, Nat.reduceSub, reduceCtorEq, Nat.reduceLeDiff, Nat.reduceLT, Int.reduceLT, Int.reduceLE, Int.reduceToNat, Int.reduceAdd, Int.reduceSub, Int.reduceNeg, Int.reduceMul, Int.reduceEq, ← Bool.decide_and, ← Bool.decide_or, ↓tq_n, ↓tq_e, ↓tq_r, ↓bq_n, ↓bq_e, ↓bq_r, ↓rq_n, ↓rq_r, ↓rq_e]
  refine CallG.mk (r_base_In _ _ _ _) ?_
  by_cases h6 : 0 ≤ p.2.2 ∧ p.2.2 ≤ 10
  case neg =>
    simp only [decide_eq_false h6, F_ref_given, g_ref_given, go_sem, reduceIte, Nat.reduceEqDiff, Nat.reduceAdd, Nat.reduceMul, Nat.reduceSub, reduceCtorEq, Nat.reduceLeDiff, Nat.reduceLT, Int.reduceLT, Int.reduceLE, Int.reduceToNat, Int.reduceAdd, Int.reduceSub, Int.reduceNeg, Int.reduceMul, Int.reduceEq, ← Bool.decide_and, ← Bool.decide_or, ↓tq_n, ↓tq_e, ↓tq_r, ↓bq_n, ↓bq_e, ↓bq_r, ↓rq_n, ↓rq_r, ↓rq_e]
    exact ret_ok (by rw [no (fun hc => h6 hc.2.2)])
  simp only [decide_eq_true h6, F_ref_given, g_ref_given, go_sem, reduceIte, Nat.reduceEqDiff, Nat.reduceAdd, Nat.reduceMul, Nat.reduceSub, reduceCtorEq, Nat.reduceLeDiff, Nat.reduceLT, Int.reduceLT, Int.reduceLE, Int.reduceToNat, Int.reduceAdd, Int.reduceSub, Int.reduceNeg, Int.reduceMul, Int.reduceEq, ← Bool.decide_and, ← Bool.decide_or, ↓tq_n, ↓tq_e, ↓tq_r, ↓bq_n, ↓bq_e, ↓bq_r, ↓rq_n, ↓rq_r, ↓rq_e]
  exact ret_ok (by rw [gvQ, if_neg (fun hh => hh.2 ⟨h4, h5, h6⟩), h0])

theorem r_ref_large (nl : Bool) (l : List It) (tl : Tail) (p : It) (h : AH) : RCall Try.prog n_ref_large [.sl nl l.length (trs l) tl, i3 p] h (I (lgQ l p)) := by
  refine RCall.of hm cF_ref_large (by simp [g_ref_large]) fun hw h' hl => ?_
  have hx := wf_len (hw _ (.head _))
  simp only [F_ref_large, g_ref_large, go_sem, reduceIte, Nat.reduceEqDiff, Nat.reduceAdd, Nat.reduceMul, Nat.reduceSub, reduceCtorEq, Nat.reduceLeDiff, Nat.reduceLT, Int.reduceLT, Int.reduceLE, Int.reduceToNat, Int.reduceAdd, Int.reduceSub, Int.reduceNeg, Int.reduceMul, Int.reduceEq, ← Bool.decide_and, ← Bool.decide_or, ↓tq_n, ↓tq_e, ↓tq_r, ↓bq_n, ↓bq_e, ↓bq_r, ↓rq_n, ↓rq_r, ↓rq_e]
  refine CallG.mk (r_ref_given nl l tl p _) ?_
  by_cases h0 : gvQ l p = 0
  case neg =>
    simp only [F_ref_large, g_ref_large, go_sem, reduceIte, Nat.reduceEqDiff, Nat.reduceAdd, Nat.reduceMul, Nat.reduceSub, reduceCtorEq, Nat.reduceLeDiff, Nat.reduceLT, Int.reduceLT, Int.reduceLE, Int.reduceToNat, Int.reduceAdd, Int.reduceSub, Int.reduceNeg, Int.reduceMul, Int.reduceEq, ← Bool.decide_and, ← Bool.decide_or, ↓tq_n, ↓tq_e, ↓tq_r, ↓bq_n, ↓bq_e, ↓bq_r, ↓rq_n, ↓rq_r, ↓rq_e]
    refine awp_loop (fun i : Nat => [(0, .sl nl l.length (trs l) tl), (3, .sptr [I p.1, I p.2.1, I p.2.2]), (5, I (gvQ l p)), (6, I i)]) (fun _ => h') (fun i => i = 0) (fun i => 0) 0 rfl (GStep.forget (by repeat' first | exact EnvLe.nil _ | refine EnvLe.cons (AV.le.of_eq rfl) ?_ | refine EnvLe.cons (AV.le.undef _) ?_ | refine EnvLe.cons AV.le.unk ?_) (by repeat' first | exact AH.le.refl _ | assumption | (refine AH.le_put ?_ (by first | assumption | exact (AH.blk_put_ne _ _ (by assumption)).trans (by assumption) | exact AH.none_put (by assumption) | exact AH.none_put (AH.none_put (by assumption)) | (simp only [AH.blk_setTok, AH.tok_put] at *; first | assumption | exact AH.none_put (by assumption)))) | (refine AH.le_setTok ?_ (by first | assumption | exact (AH.blk_put_ne _ _ (by assumption)).trans (by assumption) | exact AH.none_put (by assumption) | exact AH.none_put (AH.none_put (by assumption)) | (simp only [AH.blk_setTok, AH.tok_put] at *; first | assumption | exact AH.none_put (by assumption)))) | (refine AH.le_putM ?_ (by first | assumption | exact (AH.mp_putM_ne _ _ (by assumption)).trans (by assumption) | (simp only [AH.mp_put, AH.mp_setTok] at *; assumption))))) fun i hi => .of_vg hm ?_
    subst hi
    have e1 : lgQ l p = gvQ l p := by rw [lgQ, if_pos h0]
    by_cases h9 : 0 < l.length
    · have hc9 : ((0 : Nat) : Int) < (l.length : Int) := by omega
      simp only [h0, hc9, F_ref_large, g_ref_large, go_sem, reduceIte, Nat.reduceEqDiff, Nat.reduceAdd, Nat.reduceMul, Nat.reduceSub, reduceCtorEq, Nat.reduceLeDiff, Nat.reduceLT, Int.reduceLT, Int.reduceLE, Int.reduceToNat, Int.reduceAdd, Int.reduceSub, Int.reduceNeg, Int.reduceMul, Int.reduceEq, ← Bool.decide_and, ← Bool.decide_or, ↓tq_n, ↓tq_e, ↓tq_r, ↓bq_n, ↓bq_e, ↓bq_r, ↓rq_n, ↓rq_r, ↓rq_e]
      exact ret_ok (by rw [e1])
    · have hc9 : ¬ ((0 : Nat) : Int) < (l.length : Int) := by omega
      simp only [h0, hc9, F_ref_large, g_ref_large, go_sem, reduceIte, Nat.reduceEqDiff, Nat.reduceAdd, Nat.reduceMul, Nat.reduceSub, reduceCtorEq, Nat.reduceLeDiff, Nat.reduceLT, Int.reduceLT, Int.reduceLE, Int.reduceToNat, Int.reduceAdd, Int.reduceSub, Int.reduceNeg, Int.reduceMul, Int.reduceEq, ← Bool.decide_and, ← Bool.decide_or, ↓tq_n, ↓tq_e, ↓tq_r, ↓bq_n, ↓bq_e, ↓bq_r, ↓rq_n, ↓rq_r, ↓rq_e]
      exact ret_ok (by rw [e1])
  obtain ⟨g1, g2, g3, g4⟩ := gvQ_ok h0
  rw [h0]
  simp only [F_ref_large, g_ref_large, go_sem, reduceIte, Nat.reduceEqDiff, Nat.reduceAdd, Nat.reduceMul, Nat.reduceSub, reduceCtorEq, Nat.reduceLeDiff, Nat.reduceLT, Int.reduceLT, Int.reduceLE, Int.reduceToNat, Int.reduceAdd, Int.reduceSub, Int.reduceNeg, Int.reduceMul, Int.reduceEq, ← Bool.decide_and, ← Bool.decide_or, ↓tq_n, ↓tq_e, ↓tq_r, ↓bq_n, ↓bq_e, ↓bq_r, ↓rq_n, ↓rq_r, ↓rq_e]
  refine awp_loop (fun i : Nat × Bool => [(0, .sl nl l.length (trs l) tl), (3, .sptr [I p.1, I p.2.1, I p.2.2]), (5, I (if i.2 then 2 else 0)), (6, I i.1)]) (fun _ => h') (fun i => i.1 ≤ l.length ∧ (i.2 = false → ∀ j, j < i.1 → ¬ big p (l.getD j dI)) ∧ (i.2 = true → ∃ j, j < l.length ∧ big p (l.getD j dI))) (fun i => l.length - i.1) (0, false) ⟨Nat.zero_le _, fun _ j hj => absurd hj (Nat.not_lt_zero _), fun hh => by cases hh⟩ (GStep.forget (by repeat' first | exact EnvLe.nil _ | refine EnvLe.cons (AV.le.of_eq rfl) ?_ | refine EnvLe.cons (AV.le.undef _) ?_ | refine EnvLe.cons AV.le.unk ?_) (by repeat' first | exact AH.le.refl _ | assumption | (refine AH.le_put ?_ (by first | assumption | exact (AH.blk_put_ne _ _ (by assumption)).trans (by assumption) | exact AH.none_put (by assumption) | exact AH.none_put (AH.none_put (by assumption)) | (simp only [AH.blk_setTok, AH.tok_put] at *; first | assumption | exact AH.none_put (by assumption)))) | (refine AH.le_setTok ?_ (by first | assumption | exact (AH.blk_put_ne _ _ (by assumption)).trans (by assumption) | exact AH.none_put (by assumption) | exact AH.none_put (AH.none_put (by assumption)) | (simp only [AH.blk_setTok, AH.tok_put] at *; first | assumption | exact AH.none_put (by assumption)))) | (refine AH.le_putM ?_ (by first | assumption | exact (AH.mp_putM_ne _ _ (by assumption)).trans (by assumption) | (simp only [AH.mp_put, AH.mp_setTok] at *; assumption))))) fun i hi => .of_vg hm ?_
  obtain ⟨i, b⟩ := i
  obtain ⟨h1, h2, h2'⟩ := hi
  simp only at h1 h2 h2' ⊢
  cases b with
  | true =>
    have e1 : lgQ l p = 2 := by rw [lgQ, if_neg (fun hh => hh h0), if_pos (h2' rfl)]
    by_cases h3 : i < l.length
    · have hc3 : (i : Int) < (l.length : Int) := by omega
      simp only [hc3, F_ref_large, g_ref_large, go_sem, reduceIte, Nat.reduceEqDiff, Nat.reduceAdd, Nat.reduceMul, Nat.reduceSub, reduceCtorEq, Nat.reduceLeDiff, Nat.reduceLT, Int.reduceLT, Int.reduceLE, Int.reduceToNat, Int.reduceAdd, Int.reduceSub, Int.reduceNeg, Int.reduceMul, Int.reduceEq, ← Bool.decide_and, ← Bool.decide_or, ↓tq_n, ↓tq_e, ↓tq_r, ↓bq_n, ↓bq_e, ↓bq_r, ↓rq_n, ↓rq_r, ↓rq_e]
      exact ret_ok (by rw [e1])
    · have hc3 : ¬ (i : Int) < (l.length : Int) := by omega
      simp only [hc3, F_ref_large, g_ref_large, go_sem, reduceIte, Nat.reduceEqDiff, Nat.reduceAdd, Nat.reduceMul, Nat.reduceSub, reduceCtorEq, Nat.reduceLeDiff, Nat.reduceLT, Int.reduceLT, Int.reduceLE, Int.reduceToNat, Int.reduceAdd, Int.reduceSub, Int.reduceNeg, Int.reduceMul, Int.reduceEq, ← Bool.decide_and, ← Bool.decide_or, ↓tq_n, ↓tq_e, ↓tq_r, ↓bq_n, ↓bq_e, ↓bq_r, ↓rq_n, ↓rq_r, ↓rq_e]
      exact ret_ok (by rw [e1])
  | false =>
    by_cases h3 : i < l.length
    · have hc3 : (i : Int) < (l.length : Int) := by omega
      simp only [hc3, trs_dropI h3, F_ref_large, g_ref_large, go_sem, reduceIte, Nat.reduceEqDiff, Nat.reduceAdd, Nat.reduceMul, Nat.reduceSub, reduceCtorEq, Nat.reduceLeDiff, Nat.reduceLT, Int.reduceLT, Int.reduceLE, Int.reduceToNat, Int.reduceAdd, Int.reduceSub, Int.reduceNeg, Int.reduceMul, Int.reduceEq, ← Bool.decide_and, ← Bool.decide_or, ↓tq_n, ↓tq_e, ↓tq_r, ↓bq_n, ↓bq_e, ↓bq_r, ↓rq_n, ↓rq_r, ↓rq_e]
      refine ⟨by rw [inR64]; omega, by rw [inR64]; omega, fun h4 => ⟨by rw [inR64]; omega, (i + 1, true), ⟨by simp only; omega, (fun hh => by cases hh), fun _ => ⟨i, h3, .inl h4⟩⟩, by simp only; omega, (GStep.forget (by repeat' first | exact EnvLe.nil _ | refine EnvLe.cons (AV.le.of_eq rfl) ?_ | refine EnvLe.cons (AV.le.undef _) ?_ | refine EnvLe.cons AV.le.unk ?_) (by repeat' first | exact AH.le.refl _ | assumption | (refine AH.le_put ?_ (by first | assumption | exact (AH.blk_put_ne _ _ (by assumption)).trans (by assumption) | exact AH.none_put (by assumption) | exact AH.none_put (AH.none_put (by assumption)) | (simp only [AH.blk_setTok, AH.tok_put] at *; first | assumption | exact AH.none_put (by assumption)))) | (refine AH.le_setTok ?_ (by first | assumption | exact (AH.blk_put_ne _ _ (by assumption)).trans (by assumption) | exact AH.none_put (by assumption) | exact AH.none_put (AH.none_put (by assumption)) | (simp only [AH.blk_setTok, AH.tok_put] at *; first | assumption | exact AH.none_put (by assumption)))) | (refine AH.le_putM ?_ (by first | assumption | exact (AH.mp_putM_ne _ _ (by assumption)).trans (by assumption) | (simp only [AH.mp_put, AH.mp_setTok] at *; assumption)))))⟩, fun h4 => ⟨by rw [inR64]; omega, by rw [inR64]; omega, fun h5 => ⟨by rw [inR64]; omega, (i + 1, true), ⟨by simp only; omega, (fun hh => by cases hh), fun _ => ⟨i, h3, .inr h5⟩⟩, by simp only; omega, (GStep.forget (by repeat' first | exact EnvLe.nil _ | refine EnvLe.cons (AV.le.of_eq rfl) ?_ | refine EnvLe.cons (AV.le.undef _) ?_ | refine EnvLe.cons AV.le.unk ?_) (by repeat' first | exact AH.le.refl _ | assumption | (refine AH.le_put ?_ (by first | assumption | exact (AH.blk_put_ne _ _ (by assumption)).trans (by assumption) | exact AH.none_put (by assumption) | exact AH.none_put (AH.none_put (by assumption)) | (simp only [AH.blk_setTok, AH.tok_put] at *; first | assumption | exact AH.none_put (by assumption)))) | (refine AH.le_setTok ?_ (by first | assumption | exact (AH.blk_put_ne _ _ (by assumption)).trans (by assumption) | exact AH.none_put (by assumption) | exact AH.none_put (AH.none_put (by assumption)) | (simp only [AH.blk_setTok, AH.tok_put] at *; first | assumption | exact AH.none_put (by assumption)))) | (refine AH.le_putM ?_ (by first | assumption | exact (AH.mp_putM_ne _ _ (by assumption)).trans (by assumption) | (simp only [AH.mp_put, AH.mp_setTok] at *; assumption)))))⟩, fun h5 => ⟨by rw [inR64]; omega, (i + 1, false), ⟨by simp only; omega, (fun _ => all_succ (h2 rfl) (fun hb => hb.elim h4 h5)), (fun hh => by cases hh)⟩, by simp only; omega, (GStep.forget (by repeat' first | exact EnvLe.nil _ | refine EnvLe.cons (AV.le.of_eq rfl) ?_ | refine EnvLe.cons (AV.le.undef _) ?_ | refine EnvLe.cons AV.le.unk ?_) (by repeat' first | exact AH.le.refl _ | assumption | (refine AH.le_put ?_ (by first | assumption | exact (AH.blk_put_ne _ _ (by assumption)).trans (by assumption) | exact AH.none_put (by assumption) | exact AH.none_put (AH.none_put (by assumption)) | (simp only [AH.blk_setTok, AH.tok_put] at *; first | assumption | exact AH.none_put (by assumption)))) | (refine AH.le_setTok ?_ (by first | assumption | exact (AH.blk_put_ne _ _ (by assumption)).trans (by assumption) | exact AH.none_put (by assumption) | exact AH.none_put (AH.none_put (by assumption)) | (simp only [AH.blk_setTok, AH.tok_put] at *; first | assumption | exact AH.none_put (by assumption)))) | (refine AH.le_putM ?_ (by first | assumption | exact (AH.mp_putM_ne _ _ (by assumption)).trans (by assumption) | (simp only [AH.mp_put, AH.mp_setTok] at *; assumption)))))⟩⟩⟩
    · have h3 : i = l.length := by omega
      subst h3
      simp only [F_ref_large, g_ref_large, go_sem, reduceIte, Nat.reduceEqDiff, Nat.reduceAdd, Nat.reduceMul, Nat.reduceSub, reduceCtorEq, Nat.reduceLeDiff, Nat.reduceLT, Int.reduceLT, Int.reduceLE, Int.reduceToNat, Int.reduceAdd, Int.reduceSub, Int.reduceNeg, Int.reduceMul, Int.reduceEq, ← Bool.decide_and, ← Bool.decide_or, ↓tq_n, ↓tq_e, ↓tq_r, ↓bq_n, ↓bq_e, ↓bq_r, ↓rq_n, ↓rq_r, ↓rq_e]
      exact ret_ok (by rw [lgQ, if_neg (fun hh => hh h0), if_neg (fun ⟨j, j1, j2⟩ => h2 rfl j j1 j2)])

theorem r_plate_fits_1 (x p : It) (h : AH) (hp : pgOK p) : RCall Try.prog n_plate_fits_1 [i3 x, .sptr [I p.1, I p.2.1, I p.2.2]] h (.bool (decide (big p x))) := by
  refine RCall.of hm cF_plate_fits_1 (by simp [g_plate_fits_1]) fun hw h' hl => ?_
  obtain ⟨g1, g2, g3⟩ := hp
  simp only [F_plate_fits_1, g_plate_fits_1, go_sem, reduceIte, Nat.reduceEqDiff, Nat.reduceAdd, Nat.reduceMul, Nat.reduceSub, reduceCtorEq, Nat.reduceLeDiff, Nat.reduceLT, Int.reduceLT, Int.reduceLE, Int.reduceToNat, Int.reduceAdd, Int.reduceSub, Int.reduceNeg, Int.reduceMul, Int.reduceEq, ← Bool.decide_and, ← Bool.decide_or, ↓tq_n, ↓tq_e, ↓tq_r, ↓bq_n, ↓bq_e, ↓bq_r, ↓rq_n, ↓rq_r, ↓rq_e]
  refine ⟨by rw [inR64]; omega, by rw [inR64]; omega, fun h4 => ?_, fun h4 => ⟨by rw [inR64]; omega, by rw [inR64]; omega, ?_⟩⟩
  · exact ret_ok (by rw [decide_eq_true (show big p x from .inl h4)])
  · have e : (big p x) ↔ (p.2.1 - 2 * p.2.2 < x.2.2) := by unfold big; omega
    exact ret_ok (by simp only [e])
theorem r_slices_IndexFunc_Item (nl : Bool) (e : List It) (tl : Tail) (f : FuncId) (caps : List AV) (p : Nat → Bool) (h : AH) (hp : ∀ i, i < e.length → RCall Try.prog f (i3 (e.getD i dI) :: caps) h (.bool (p i))) :
    RCall Try.prog n_slices_IndexFunc_Item [.sl nl e.length (trs e) tl, .fn f caps] h (I (findI p e.length)) := by
  refine RCall.of hm cF_slices_IndexFunc_Item (by simp [g_slices_IndexFunc_Item]) fun hw h' hl => ?_
  have hx := wf_len (hw _ (.head _))
  simp only [F_slices_IndexFunc_Item, g_slices_IndexFunc_Item, go_sem, reduceIte, Nat.reduceEqDiff, Nat.reduceAdd, Nat.reduceMul, Nat.reduceSub, reduceCtorEq, Nat.reduceLeDiff, Nat.reduceLT, Int.reduceLT, Int.reduceLE, Int.reduceToNat, Int.reduceAdd, Int.reduceSub, Int.reduceNeg, Int.reduceMul, Int.reduceEq, ← Bool.decide_and, ← Bool.decide_or, ↓tq_n, ↓tq_e, ↓tq_r, ↓bq_n, ↓bq_e, ↓bq_r, ↓rq_n, ↓rq_r, ↓rq_e]
  refine awp_loop (fun i : Nat => [(0, .sl nl e.length (trs e) tl), (1, .fn f caps), (7, I e.length), (8, I i)]) (fun _ => h') (fun i => i ≤ e.length ∧ ∀ j, j < i → p j = false) (fun i => e.length - i) 0 ⟨by omega, by omega⟩ (GStep.forget (by repeat' first | exact EnvLe.nil _ | refine EnvLe.cons (AV.le.of_eq rfl) ?_ | refine EnvLe.cons (AV.le.undef _) ?_ | refine EnvLe.cons AV.le.unk ?_) (by repeat' first | exact AH.le.refl _ | assumption | (refine AH.le_put ?_ (by first | assumption | exact (AH.blk_put_ne _ _ (by assumption)).trans (by assumption) | exact AH.none_put (by assumption) | exact AH.none_put (AH.none_put (by assumption)) | (simp only [AH.blk_setTok, AH.tok_put] at *; first | assumption | exact AH.none_put (by assumption)))) | (refine AH.le_setTok ?_ (by first | assumption | exact (AH.blk_put_ne _ _ (by assumption)).trans (by assumption) | exact AH.none_put (by assumption) | exact AH.none_put (AH.none_put (by assumption)) | (simp only [AH.blk_setTok, AH.tok_put] at *; first | assumption | exact AH.none_put (by assumption)))) | (refine AH.le_putM ?_ (by first | assumption | exact (AH.mp_putM_ne _ _ (by assumption)).trans (by assumption) | (simp only [AH.mp_put, AH.mp_setTok] at *; assumption))))) fun i hi => .of_vg hm ?_
  obtain ⟨h1, h2⟩ := hi
  by_cases h3 : i < e.length
  · have hc3 : (i : Int) < (e.length : Int) := by omega
    simp only [hc3, trs_dropI h3, F_slices_IndexFunc_Item, g_slices_IndexFunc_Item, go_sem, reduceIte, Nat.reduceEqDiff, Nat.reduceAdd, Nat.reduceMul, Nat.reduceSub, reduceCtorEq, Nat.reduceLeDiff, Nat.reduceLT, Int.reduceLT, Int.reduceLE, Int.reduceToNat, Int.reduceAdd, Int.reduceSub, Int.reduceNeg, Int.reduceMul, Int.reduceEq, ← Bool.decide_and, ← Bool.decide_or, ↓tq_n, ↓tq_e, ↓tq_r, ↓bq_n, ↓bq_e, ↓bq_r, ↓rq_n, ↓rq_r, ↓rq_e]
    refine CallG.mk ((hp i h3).leB hl) ?_
    cases hpi : p i
    · simp only [F_slices_IndexFunc_Item, g_slices_IndexFunc_Item, go_sem, reduceIte, Nat.reduceEqDiff, Nat.reduceAdd, Nat.reduceMul, Nat.reduceSub, reduceCtorEq, Nat.reduceLeDiff, Nat.reduceLT, Int.reduceLT, Int.reduceLE, Int.reduceToNat, Int.reduceAdd, Int.reduceSub, Int.reduceNeg, Int.reduceMul, Int.reduceEq, ← Bool.decide_and, ← Bool.decide_or, ↓tq_n, ↓tq_e, ↓tq_r, ↓bq_n, ↓bq_e, ↓bq_r, ↓rq_n, ↓rq_r, ↓rq_e]
      exact ⟨by rw [inR64]; omega, i + 1, ⟨by omega, all_succ h2 hpi⟩, by omega, (GStep.forget (by repeat' first | exact EnvLe.nil _ | refine EnvLe.cons (AV.le.of_eq rfl) ?_ | refine EnvLe.cons (AV.le.undef _) ?_ | refine EnvLe.cons AV.le.unk ?_) (by repeat' first | exact AH.le.refl _ | assumption | (refine AH.le_put ?_ (by first | assumption | exact (AH.blk_put_ne _ _ (by assumption)).trans (by assumption) | exact AH.none_put (by assumption) | exact AH.none_put (AH.none_put (by assumption)) | (simp only [AH.blk_setTok, AH.tok_put] at *; first | assumption | exact AH.none_put (by assumption)))) | (refine AH.le_setTok ?_ (by first | assumption | exact (AH.blk_put_ne _ _ (by assumption)).trans (by assumption) | exact AH.none_put (by assumption) | exact AH.none_put (AH.none_put (by assumption)) | (simp only [AH.blk_setTok, AH.tok_put] at *; first | assumption | exact AH.none_put (by assumption)))) | (refine AH.le_putM ?_ (by first | assumption | exact (AH.mp_putM_ne _ _ (by assumption)).trans (by assumption) | (simp only [AH.mp_put, AH.mp_setTok] at *; assumption)))))⟩
    · simp only [F_slices_IndexFunc_Item, g_slices_IndexFunc_Item, go_sem, reduceIte, Nat.reduceEqDiff, Nat.reduceAdd, Nat.reduceMul, Nat.reduceSub, reduceCtorEq, Nat.reduceLeDiff, Nat.reduceLT, Int.reduceLT, Int.reduceLE, Int.reduceToNat, Int.reduceAdd, Int.reduceSub, Int.reduceNeg, Int.reduceMul, Int.reduceEq, ← Bool.decide_and, ← Bool.decide_or, ↓tq_n, ↓tq_e, ↓tq_r, ↓bq_n, ↓bq_e, ↓bq_r, ↓rq_n, ↓rq_r, ↓rq_e]
      exact ret_ok (by rw [findI_at hpi h2 h3])
  · have h3 : i = e.length := by omega
    subst h3
    simp only [F_slices_IndexFunc_Item, g_slices_IndexFunc_Item, go_sem, reduceIte, Nat.reduceEqDiff, Nat.reduceAdd, Nat.reduceMul, Nat.reduceSub, reduceCtorEq, Nat.reduceLeDiff, Nat.reduceLT, Int.reduceLT, Int.reduceLE, Int.reduceToNat, Int.reduceAdd, Int.reduceSub, Int.reduceNeg, Int.reduceMul, Int.reduceEq, ← Bool.decide_and, ← Bool.decide_or, ↓tq_n, ↓tq_e, ↓tq_r, ↓bq_n, ↓bq_e, ↓bq_r, ↓rq_n, ↓rq_r, ↓rq_e]
    exact ret_ok (by rw [findI_neg h2])
theorem r_slices_ContainsFunc_Item (nl : Bool) (e : List It) (tl : Tail) (f : FuncId) (caps : List AV) (p : Nat → Bool) (h : AH) (hp : ∀ i, i < e.length → RCall Try.prog f (i3 (e.getD i dI) :: caps) h (.bool (p i))) :
    RCall Try.prog n_slices_ContainsFunc_Item [.sl nl e.length (trs e) tl, .fn f caps] h (.bool ((List.range e.length).any p)) := by
  refine RCall.of hm cF_slices_ContainsFunc_Item (by simp [g_slices_ContainsFunc_Item]) fun hw h' hl => ?_
  simp only [F_slices_ContainsFunc_Item, g_slices_ContainsFunc_Item, go_sem, reduceIte, Nat.reduceEqDiff, Nat.reduceAdd, Nat.reduceMul, Nat.reduceSub, reduceCtorEq, Nat.reduceLeDiff, Nat.reduceLT, Int.reduceLT, Int.reduceLE, Int.reduceToNat, Int.reduceAdd, Int.reduceSub, Int.reduceNeg, Int.reduceMul, Int.reduceEq, ← Bool.decide_and, ← Bool.decide_or, ↓tq_n, ↓tq_e, ↓tq_r, ↓bq_n, ↓bq_e, ↓bq_r, ↓rq_n, ↓rq_r, ↓rq_e]
  refine CallG.mk (r_slices_IndexFunc_Item nl e tl f caps p h' (fun i hi => (hp i hi).leB hl)) ?_
  simp only [F_slices_ContainsFunc_Item, g_slices_ContainsFunc_Item, go_sem, reduceIte, Nat.reduceEqDiff, Nat.reduceAdd, Nat.reduceMul, Nat.reduceSub, reduceCtorEq, Nat.reduceLeDiff, Nat.reduceLT, Int.reduceLT, Int.reduceLE, Int.reduceToNat, Int.reduceAdd, Int.reduceSub, Int.reduceNeg, Int.reduceMul, Int.reduceEq, ← Bool.decide_and, ← Bool.decide_or, ↓tq_n, ↓tq_e, ↓tq_r, ↓bq_n, ↓bq_e, ↓bq_r, ↓rq_n, ↓rq_r, ↓rq_e]
  exact ret_ok (by rw [show decide (0 ≤ findI p e.length) = (List.range e.length).any p by rw [Bool.eq_iff_iff]; simp only [decide_eq_true_eq]; exact findI_nonneg])
theorem r_plate_fits (nl : Bool) (l : List It) (tl : Tail) (p : It) (h : AH) : RCall Try.prog n_plate_fits [.sl nl l.length (trs l) tl, i3 p] h (I (lgQ l p)) := by
  refine RCall.of hm cF_plate_fits (by simp [g_plate_fits]) fun hw h' hl => ?_
  simp only [F_plate_fits, g_plate_fits, go_sem, reduceIte, Nat.reduceEqDiff, Nat.reduceAdd, Nat.reduceMul, Nat.reduceSub, reduceCtorEq, Nat.reduceLeDiff, Nat.reduceLT, Int.reduceLT, Int.reduceLE, Int.reduceToNat, Int.reduceAdd, Int.reduceSub, Int.reduceNeg, Int.reduceMul, Int.reduceEq, ← Bool.decide_and, ← Bool.decide_or, ↓tq_n, ↓tq_e, ↓tq_r, ↓bq_n, ↓bq_e, ↓bq_r, ↓rq_n, ↓rq_r, ↓rq_e]
  refine CallG.mk (r_plate_check nl l tl p _) ?_
  simp only [F_plate_fits, g_plate_fits, go_sem, reduceIte, Nat.reduceEqDiff, Nat.reduceAdd, Nat.reduceMul, Nat.reduceSub, reduceCtorEq, Nat.reduceLeDiff, Nat.reduceLT, Int.reduceLT, Int.reduceLE, Int.reduceToNat, Int.reduceAdd, Int.reduceSub, Int.reduceNeg, Int.reduceMul, Int.reduceEq, ← Bool.decide_and, ← Bool.decide_or, ↓tq_n, ↓tq_e, ↓tq_r, ↓bq_n, ↓bq_e, ↓bq_r, ↓rq_n, ↓rq_r, ↓rq_e]
  refine ⟨fun h0 => ?_, fun h0 => ?_⟩
  · exact ret_ok (by rw [lgQ, if_pos h0])
  refine CallG.mk (r_slices_ContainsFunc_Item nl l tl _ _ (fun i => decide (big p (l.getD i dI))) _ (fun i hi => r_plate_fits_1 _ p _ (gvQ_ok h0).2)) ?_
  by_cases hp : ∃ i, i < l.length ∧ big p (l.getD i dI)
  · have ha : ((List.range l.length).any fun i => decide (big p (l.getD i dI))) = true := by
      obtain ⟨i, h1, h2⟩ := hp
      simp only [List.any_eq_true, List.mem_range, decide_eq_true_eq]
      exact ⟨i, h1, h2⟩
    rw [ha]
    simp only [F_plate_fits, g_plate_fits, go_sem, reduceIte, Nat.reduceEqDiff, Nat.reduceAdd, Nat.reduceMul, Nat.reduceSub, reduceCtorEq, Nat.reduceLeDiff, Nat.reduceLT, Int.reduceLT, Int.reduceLE, Int.reduceToNat, Int.reduceAdd, Int.reduceSub, Int.reduceNeg, Int.reduceMul, Int.reduceEq, ← Bool.decide_and, ← Bool.decide_or, ↓tq_n, ↓tq_e, ↓tq_r, ↓bq_n, ↓bq_e, ↓bq_r, ↓rq_n, ↓rq_r, ↓rq_e]
    exact ret_ok (by rw [lgQ, if_neg (fun hh => hh h0), if_pos hp])
  · have ha : ((List.range l.length).any fun i => decide (big p (l.getD i dI))) = false := by
      rw [Bool.eq_false_iff]
      simp only [ne_eq, List.any_eq_true, List.mem_range, decide_eq_true_eq]
      exact hp
    rw [ha]
    simp only [F_plate_fits, g_plate_fits, go_sem, reduceIte, Nat.reduceEqDiff, Nat.reduceAdd, Nat.reduceMul, Nat.reduceSub, reduceCtorEq, Nat.reduceLeDiff, Nat.reduceLT, Int.reduceLT, Int.reduceLE, Int.reduceToNat, Int.reduceAdd, Int.reduceSub, Int.reduceNeg, Int.reduceMul, Int.reduceEq, ← Bool.decide_and, ← Bool.decide_or, ↓tq_n, ↓tq_e, ↓tq_r, ↓bq_n, ↓bq_e, ↓bq_r, ↓rq_n, ↓rq_r, ↓rq_e]
    exact ret_ok (by rw [lgQ, if_neg (fun hh => hh h0), if_neg hp])

/-- The numbers of a page that is fine and of an item of it. -/
def smI (x : It) : Prop := (0 ≤ x.2.1 ∧ x.2.1 ≤ 100) ∧ 0 ≤ x.2.2 ∧ x.2.2 ≤ 100
theorem r_plate_inner (x p : It) (s : Sp) (h : AH) (hp : pgOK p) (hx : smI x) : RCall Try.prog n_plate_inner [i3 x, i3 p, s4 s] h (.bool (decide (inn p x s))) := by
  refine RCall.of hm cF_plate_inner (by simp [g_plate_inner]) fun hw h' hl => ?_
  obtain ⟨g1, g2, g3⟩ := hp
  obtain ⟨y1, y2⟩ := hx
  by_cases c1 : p.2.2 ≤ s.2.2.1
  case neg =>
    simp only [decide_eq_false c1, F_plate_inner, g_plate_inner, go_sem, reduceIte, Nat.reduceEqDiff, Nat.reduceAdd, Nat.reduceMul, Nat.reduceSub, reduceCtorEq, Nat.reduceLeDiff, Nat.reduceLT, Int.reduceLT, Int.reduceLE, Int.reduceToNat, Int.reduceAdd, Int.reduceSub, Int.reduceNeg, Int.reduceMul, Int.reduceEq, ← Bool.decide_and, ← Bool.decide_or, ↓tq_n, ↓tq_e, ↓tq_r, ↓bq_n, ↓bq_e, ↓bq_r, ↓rq_n, ↓rq_r, ↓rq_e]
    exact ret_ok (by rw [decide_eq_false (fun hh : inn p x s => c1 hh.1)])
  by_cases c2 : p.2.2 ≤ s.2.2.2
  case neg =>
    simp only [decide_eq_true c1, decide_eq_false c2, F_plate_inner, g_plate_inner, go_sem, reduceIte, Nat.reduceEqDiff, Nat.reduceAdd, Nat.reduceMul, Nat.reduceSub, reduceCtorEq, Nat.reduceLeDiff, Nat.reduceLT, Int.reduceLT, Int.reduceLE, Int.reduceToNat, Int.reduceAdd, Int.reduceSub, Int.reduceNeg, Int.reduceMul, Int.reduceEq, ← Bool.decide_and, ← Bool.decide_or, ↓tq_n, ↓tq_e, ↓tq_r, ↓bq_n, ↓bq_e, ↓bq_r, ↓rq_n, ↓rq_r, ↓rq_e]
    exact ret_ok (by rw [decide_eq_false (fun hh : inn p x s => c2 hh.2.1)])
  simp only [decide_eq_true c1, decide_eq_true c2, F_plate_inner, g_plate_inner, go_sem, reduceIte, Nat.reduceEqDiff, Nat.reduceAdd, Nat.reduceMul, Nat.reduceSub, reduceCtorEq, Nat.reduceLeDiff, Nat.reduceLT, Int.reduceLT, Int.reduceLE, Int.reduceToNat, Int.reduceAdd, Int.reduceSub, Int.reduceNeg, Int.reduceMul, Int.reduceEq, ← Bool.decide_and, ← Bool.decide_or, ↓tq_n, ↓tq_e, ↓tq_r, ↓bq_n, ↓bq_e, ↓bq_r, ↓rq_n, ↓rq_r, ↓rq_e]
  refine ⟨by rw [inR64]; omega, by rw [inR64]; omega, fun h3 => ⟨by rw [inR64]; omega, by rw [inR64]; omega, ?_⟩, fun h3 => ?_⟩
  · have e : (inn p x s) ↔ (s.2.2.2 ≤ p.2.1 - p.2.2 - x.2.2) := by unfold inn; omega
    exact ret_ok (by simp only [e])
  · exact ret_ok (by rw [decide_eq_false (fun hh : inn p x s => h3 hh.2.2.1)])
theorem r_ref_within (x p : It) (s : Sp) (h : AH) (hp : pgOK p) (hx : smI x) (hs : s.2.2.1 ≤ 1000 ∧ s.2.2.2 ≤ 1000) : RCall Try.prog n_ref_within [i3 x, i3 p, s4 s] h (.bool (decide (inn p x s))) := by
  refine RCall.of hm cF_ref_within (by simp [g_ref_within]) fun hw h' hl => ?_
  obtain ⟨g1, g2, g3⟩ := hp
  obtain ⟨y1, y2⟩ := hx
  by_cases c1 : p.2.2 ≤ s.2.2.1
  case neg =>
    simp only [decide_eq_false c1, F_ref_within, g_ref_within, go_sem, reduceIte, Nat.reduceEqDiff, Nat.reduceAdd, Nat.reduceMul, Nat.reduceSub, reduceCtorEq, Nat.reduceLeDiff, Nat.reduceLT, Int.reduceLT, Int.reduceLE, Int.reduceToNat, Int.reduceAdd, Int.reduceSub, Int.reduceNeg, Int.reduceMul, Int.reduceEq, ← Bool.decide_and, ← Bool.decide_or, ↓tq_n, ↓tq_e, ↓tq_r, ↓bq_n, ↓bq_e, ↓bq_r, ↓rq_n, ↓rq_r, ↓rq_e]
    exact ret_ok (by rw [decide_eq_false (fun hh : inn p x s => c1 hh.1)])
  by_cases c2 : p.2.2 ≤ s.2.2.2
  case neg =>
    simp only [decide_eq_true c1, decide_eq_false c2, F_ref_within, g_ref_within, go_sem, reduceIte, Nat.reduceEqDiff, Nat.reduceAdd, Nat.reduceMul, Nat.reduceSub, reduceCtorEq, Nat.reduceLeDiff, Nat.reduceLT, Int.reduceLT, Int.reduceLE, Int.reduceToNat, Int.reduceAdd, Int.reduceSub, Int.reduceNeg, Int.reduceMul, Int.reduceEq, ← Bool.decide_and, ← Bool.decide_or, ↓tq_n, ↓tq_e, ↓tq_r, ↓bq_n, ↓bq_e, ↓bq_r, ↓rq_n, ↓rq_r, ↓rq_e]
    exact ret_ok (by rw [decide_eq_false (fun hh : inn p x s => c2 hh.2.1)])
  simp only [decide_eq_true c1, decide_eq_true c2, F_ref_within, g_ref_within, go_sem, reduceIte, Nat.reduceEqDiff, Nat.reduceAdd, Nat.reduceMul, Nat.reduceSub, reduceCtorEq, Nat.reduceLeDiff, Nat.reduceLT, Int.reduceLT, Int.reduceLE, Int.reduceToNat, Int.reduceAdd, Int.reduceSub, Int.reduceNeg, Int.reduceMul, Int.reduceEq, ← Bool.decide_and, ← Bool.decide_or, ↓tq_n, ↓tq_e, ↓tq_r, ↓bq_n, ↓bq_e, ↓bq_r, ↓rq_n, ↓rq_r, ↓rq_e]
  refine ⟨by rw [inR64]; omega, by rw [inR64]; omega, fun h3 => ⟨by rw [inR64]; omega, by rw [inR64]; omega, ?_⟩, fun h3 => ?_⟩
  · have e : (inn p x s) ↔ (s.2.2.2 + x.2.2 ≤ p.2.1 - p.2.2) := by unfold inn; omega
    exact ret_ok (by simp only [e])
  · exact ret_ok (by rw [decide_eq_false (fun hh : inn p x s => by have := hh.2.2.1; omega)])
theorem r_plate_near (a n b m g : Int) (h : AH) (h1 : (0 ≤ a ∧ a ≤ 1000) ∧ (0 ≤ n ∧ n ≤ 1000) ∧ (0 ≤ b ∧ b ≤ 1000) ∧ (0 ≤ m ∧ m ≤ 1000) ∧ 0 ≤ g ∧ g ≤ 1000) : RCall Try.prog n_plate_near [I a, I n, I b, I m, I g] h (.bool (decide (nr a n b m g))) := by
  refine RCall.of hm cF_plate_near (by simp [g_plate_near]) fun hw h' hl => ?_
  obtain ⟨y1, y2, y3, y4, y5⟩ := h1
  simp only [F_plate_near, g_plate_near, go_sem, reduceIte, Nat.reduceEqDiff, Nat.reduceAdd, Nat.reduceMul, Nat.reduceSub, reduceCtorEq, Nat.reduceLeDiff, Nat.reduceLT, Int.reduceLT, Int.reduceLE, Int.reduceToNat, Int.reduceAdd, Int.reduceSub, Int.reduceNeg, Int.reduceMul, Int.reduceEq, ← Bool.decide_and, ← Bool.decide_or, ↓tq_n, ↓tq_e, ↓tq_r, ↓bq_n, ↓bq_e, ↓bq_r, ↓rq_n, ↓rq_r, ↓rq_e]
  refine ⟨by rw [inR64]; omega, by rw [inR64]; omega, fun h3 => ⟨by rw [inR64]; omega, by rw [inR64]; omega, ?_⟩, fun h3 => ?_⟩
  · have e : (nr a n b m g) ↔ (a < b + m + g) := by unfold nr; omega
    exact ret_ok (by simp only [e])
  · exact ret_ok (by rw [decide_eq_false (fun hh : nr a n b m g => h3 hh.1)])
theorem r_ref_find (nl : Bool) (l : List It) (tl : Tail) (k : Int) (h : AH) : RCall Try.prog n_ref_find [.sl nl l.length (trs l) tl, I k] h (i3 (fnd l k)) := by
  refine RCall.of hm cF_ref_find (by simp [g_ref_find]) fun hw h' hl => ?_
  have hx := wf_len (hw _ (.head _))
  simp only [F_ref_find, g_ref_find, go_sem, reduceIte, Nat.reduceEqDiff, Nat.reduceAdd, Nat.reduceMul, Nat.reduceSub, reduceCtorEq, Nat.reduceLeDiff, Nat.reduceLT, Int.reduceLT, Int.reduceLE, Int.reduceToNat, Int.reduceAdd, Int.reduceSub, Int.reduceNeg, Int.reduceMul, Int.reduceEq, ← Bool.decide_and, ← Bool.decide_or, ↓tq_n, ↓tq_e, ↓tq_r, ↓bq_n, ↓bq_e, ↓bq_r, ↓rq_n, ↓rq_r, ↓rq_e]
  refine AllocG.mk fun b hb => ?_
  simp only [F_ref_find, g_ref_find, go_sem, reduceIte, Nat.reduceEqDiff, Nat.reduceAdd, Nat.reduceMul, Nat.reduceSub, reduceCtorEq, Nat.reduceLeDiff, Nat.reduceLT, Int.reduceLT, Int.reduceLE, Int.reduceToNat, Int.reduceAdd, Int.reduceSub, Int.reduceNeg, Int.reduceMul, Int.reduceEq, ← Bool.decide_and, ← Bool.decide_or, ↓tq_n, ↓tq_e, ↓tq_r, ↓bq_n, ↓bq_e, ↓bq_r, ↓rq_n, ↓rq_r, ↓rq_e]
  refine awp_loop (fun i : Nat => [(0, .sl nl l.length (trs l) tl), (1, I k), (4, .ptr b 0), (5, I i)]) (fun _ => h'.put b [I 0, I 0, I 0]) (fun i => i ≤ l.length ∧ ∀ j, j < i → (l.getD j dI).1 ≠ k) (fun i => l.length - i) 0 ⟨Nat.zero_le _, fun j hj => absurd hj (Nat.not_lt_zero _)⟩ (GStep.forget (by repeat' first | exact EnvLe.nil _ | refine EnvLe.cons (AV.le.of_eq rfl) ?_ | refine EnvLe.cons (AV.le.undef _) ?_ | refine EnvLe.cons AV.le.unk ?_) (by repeat' first | exact AH.le.refl _ | assumption | (refine AH.le_put ?_ (by first | assumption | exact (AH.blk_put_ne _ _ (by assumption)).trans (by assumption) | exact AH.none_put (by assumption) | exact AH.none_put (AH.none_put (by assumption)) | (simp only [AH.blk_setTok, AH.tok_put] at *; first | assumption | exact AH.none_put (by assumption)))) | (refine AH.le_setTok ?_ (by first | assumption | exact (AH.blk_put_ne _ _ (by assumption)).trans (by assumption) | exact AH.none_put (by assumption) | exact AH.none_put (AH.none_put (by assumption)) | (simp only [AH.blk_setTok, AH.tok_put] at *; first | assumption | exact AH.none_put (by assumption)))) | (refine AH.le_putM ?_ (by first | assumption | exact (AH.mp_putM_ne _ _ (by assumption)).trans (by assumption) | (simp only [AH.mp_put, AH.mp_setTok] at *; assumption))))) fun i hi => .of_vg hm ?_
  obtain ⟨h1, h2⟩ := hi
  by_cases h3 : i < l.length
  · have hc3 : (i : Int) < (l.length : Int) := by omega
    simp only [hc3, trs_dropI h3, F_ref_find, g_ref_find, go_sem, reduceIte, Nat.reduceEqDiff, Nat.reduceAdd, Nat.reduceMul, Nat.reduceSub, reduceCtorEq, Nat.reduceLeDiff, Nat.reduceLT, Int.reduceLT, Int.reduceLE, Int.reduceToNat, Int.reduceAdd, Int.reduceSub, Int.reduceNeg, Int.reduceMul, Int.reduceEq, ← Bool.decide_and, ← Bool.decide_or, ↓tq_n, ↓tq_e, ↓tq_r, ↓bq_n, ↓bq_e, ↓bq_r, ↓rq_n, ↓rq_r, ↓rq_e]
    refine ⟨fun h4 => ?_, fun h4 => ⟨by rw [inR64]; omega, i + 1, ⟨by omega, all_succ h2 h4⟩, by omega, (GStep.forget (by repeat' first | exact EnvLe.nil _ | refine EnvLe.cons (AV.le.of_eq rfl) ?_ | refine EnvLe.cons (AV.le.undef _) ?_ | refine EnvLe.cons AV.le.unk ?_) (by repeat' first | exact AH.le.refl _ | assumption | (refine AH.le_put ?_ (by first | assumption | exact (AH.blk_put_ne _ _ (by assumption)).trans (by assumption) | exact AH.none_put (by assumption) | exact AH.none_put (AH.none_put (by assumption)) | (simp only [AH.blk_setTok, AH.tok_put] at *; first | assumption | exact AH.none_put (by assumption)))) | (refine AH.le_setTok ?_ (by first | assumption | exact (AH.blk_put_ne _ _ (by assumption)).trans (by assumption) | exact AH.none_put (by assumption) | exact AH.none_put (AH.none_put (by assumption)) | (simp only [AH.blk_setTok, AH.tok_put] at *; first | assumption | exact AH.none_put (by assumption)))) | (refine AH.le_putM ?_ (by first | assumption | exact (AH.mp_putM_ne _ _ (by assumption)).trans (by assumption) | (simp only [AH.mp_put, AH.mp_setTok] at *; assumption)))))⟩⟩
    exact ret_hb (AH.le_new _ _ hb) (by rw [fnd_at h3 h4 h2])
  · have h3 : i = l.length := by omega
    subst h3
    simp only [F_ref_find, g_ref_find, go_sem, reduceIte, Nat.reduceEqDiff, Nat.reduceAdd, Nat.reduceMul, Nat.reduceSub, reduceCtorEq, Nat.reduceLeDiff, Nat.reduceLT, Int.reduceLT, Int.reduceLE, Int.reduceToNat, Int.reduceAdd, Int.reduceSub, Int.reduceNeg, Int.reduceMul, Int.reduceEq, ← Bool.decide_and, ← Bool.decide_or, ↓tq_n, ↓tq_e, ↓tq_r, ↓bq_n, ↓bq_e, ↓bq_r, ↓rq_n, ↓rq_r, ↓rq_e]
    exact ret_hb (AH.le_new _ _ hb) (by rw [fnd_none h2])
end Go.Proofs.Ytkoecjhjdckgeaa
