/- Calls of functions of this seat's program: lists that are compared; what was made, what was withdrawn; ledgers compared. No condition. -/
import Derived.Test.YtcnmodnafnadlaaP1
import Derived.Test.YtcnmodnafnadlaaC3
namespace Go.Proofs.Ytcnmodnafnadlaa
open Go Go.Abs
set_option linter.unusedSimpArgs false
set_option linter.unusedVariables false
set_option maxRecDepth 20000

theorem r_base_Decisions (nl1 : Bool) (xs : List Dec) (tl1 : Tail) (nl2 : Bool) (ys : List Dec) (tl2 : Tail) (h : AH) :
    RCall Try.prog n_base_Decisions [.sl nl1 xs.length (dcs xs) tl1, .sl nl2 ys.length (dcs ys) tl2] h (.bool (decide (xs = ys))) := by
  refine RCall.of hm cF_base_Decisions (by simp [g_base_Decisions]) fun hw h' _ => ?_
  have hx := wf_len (hw _ (.head _))
  simp only [F_base_Decisions, g_base_Decisions, go_sem, reduceIte, Nat.reduceEqDiff, Nat.reduceAdd, Nat.reduceMul, Nat.reduceSub, reduceCtorEq, Nat.reduceLeDiff, Nat.reduceLT, Int.reduceLT, Int.reduceLE, Int.reduceToNat, Int.reduceAdd, Int.reduceSub, Int.reduceNeg, Int.reduceMul, Int.reduceEq, ← Bool.decide_and, ← Bool.decide_or, ↓tq_n, ↓tq_e, ↓tq_r, ↓bq_n, ↓bq_e, ↓bq_r, ↓rq_n, ↓rq_r, ↓rq_e]
  refine ⟨fun hne => ?_, fun heq => ?_⟩
  · have : xs ≠ ys := fun hh => by subst hh; exact hne rfl
    exact ret_ok (by simp [this])
  have hl : xs.length = ys.length := by omega
  refine awp_loop (fun i : Nat => [(0, .sl nl1 xs.length (dcs xs) tl1), (1, .sl nl2 ys.length (dcs ys) tl2), (5, I i)]) (fun _ => h') (fun i => i ≤ xs.length ∧ ∀ j, j < i → xs.getD j dD = ys.getD j dD) (fun i => xs.length - i) 0 ⟨by omega, by omega⟩ (GStep.forget (by repeat' first | exact EnvLe.nil _ | refine EnvLe.cons (AV.le.of_eq rfl) ?_ | refine EnvLe.cons (AV.le.undef _) ?_ | refine EnvLe.cons AV.le.unk ?_) (by repeat' first | exact AH.le.refl _ | assumption | (refine AH.le_put ?_ (by first | assumption | exact (AH.blk_put_ne _ _ (by assumption)).trans (by assumption) | exact AH.none_put (by assumption) | exact AH.none_put (AH.none_put (by assumption)) | (simp only [AH.blk_setTok, AH.tok_put] at *; first | assumption | exact AH.none_put (by assumption)))) | (refine AH.le_setTok ?_ (by first | assumption | exact (AH.blk_put_ne _ _ (by assumption)).trans (by assumption) | exact AH.none_put (by assumption) | exact AH.none_put (AH.none_put (by assumption)) | (simp only [AH.blk_setTok, AH.tok_put] at *; first | assumption | exact AH.none_put (by assumption)))) | (refine AH.le_putM ?_ (by first | assumption | exact (AH.mp_putM_ne _ _ (by assumption)).trans (by assumption) | (simp only [AH.mp_put, AH.mp_setTok] at *; assumption))))) fun i hi => .of_vg hm ?_
  obtain ⟨h1, h2⟩ := hi
  by_cases hc : i < xs.length
  · have hc1 : (i : Int) < (xs.length : Int) := by omega
    have hc2 : (i : Int) < (ys.length : Int) := by omega
    simp only [hc1, hc2, dcs_drop hc, dcs_drop (show i < ys.length by omega), eqCells, F_base_Decisions, g_base_Decisions, go_sem, reduceIte, Nat.reduceEqDiff, Nat.reduceAdd, Nat.reduceMul, Nat.reduceSub, reduceCtorEq, Nat.reduceLeDiff, Nat.reduceLT, Int.reduceLT, Int.reduceLE, Int.reduceToNat, Int.reduceAdd, Int.reduceSub, Int.reduceNeg, Int.reduceMul, Int.reduceEq, ← Bool.decide_and, ← Bool.decide_or, ↓tq_n, ↓tq_e, ↓tq_r, ↓bq_n, ↓bq_e, ↓bq_r, ↓rq_n, ↓rq_r, ↓rq_e]
    refine ⟨fun hne => ?_, fun heq' => ?_⟩
    · have : xs ≠ ys := fun hh => by subst hh; exact hne ⟨rfl, rfl, rfl, rfl, rfl⟩
      exact ret_ok (by simp [this])
    · have e1 : xs.getD i dD = ys.getD i dD := Dec.ext' heq'
      exact ⟨by rw [inR64]; omega, i + 1, ⟨by omega, all_succ h2 e1⟩, by omega, (GStep.forget (by repeat' first | exact EnvLe.nil _ | refine EnvLe.cons (AV.le.of_eq rfl) ?_ | refine EnvLe.cons (AV.le.undef _) ?_ | refine EnvLe.cons AV.le.unk ?_) (by repeat' first | exact AH.le.refl _ | assumption | (refine AH.le_put ?_ (by first | assumption | exact (AH.blk_put_ne _ _ (by assumption)).trans (by assumption) | exact AH.none_put (by assumption) | exact AH.none_put (AH.none_put (by assumption)) | (simp only [AH.blk_setTok, AH.tok_put] at *; first | assumption | exact AH.none_put (by assumption)))) | (refine AH.le_setTok ?_ (by first | assumption | exact (AH.blk_put_ne _ _ (by assumption)).trans (by assumption) | exact AH.none_put (by assumption) | exact AH.none_put (AH.none_put (by assumption)) | (simp only [AH.blk_setTok, AH.tok_put] at *; first | assumption | exact AH.none_put (by assumption)))) | (refine AH.le_putM ?_ (by first | assumption | exact (AH.mp_putM_ne _ _ (by assumption)).trans (by assumption) | (simp only [AH.mp_put, AH.mp_setTok] at *; assumption)))))⟩
  · have h3 : i = xs.length := by omega
    subst h3
    simp only [F_base_Decisions, g_base_Decisions, go_sem, reduceIte, Nat.reduceEqDiff, Nat.reduceAdd, Nat.reduceMul, Nat.reduceSub, reduceCtorEq, Nat.reduceLeDiff, Nat.reduceLT, Int.reduceLT, Int.reduceLE, Int.reduceToNat, Int.reduceAdd, Int.reduceSub, Int.reduceNeg, Int.reduceMul, Int.reduceEq, ← Bool.decide_and, ← Bool.decide_or, ↓tq_n, ↓tq_e, ↓tq_r, ↓bq_n, ↓bq_e, ↓bq_r, ↓rq_n, ↓rq_r, ↓rq_e]
    have : xs = ys := getD_gext dD hl h2
    exact ret_ok (by simp [this])
theorem r_base_Marks (nl1 : Bool) (xs : List (Int × Int)) (tl1 : Tail) (nl2 : Bool) (ys : List (Int × Int)) (tl2 : Tail) (h : AH) :
    RCall Try.prog n_base_Marks [.sl nl1 xs.length (prs xs) tl1, .sl nl2 ys.length (prs ys) tl2] h (.bool (decide (xs = ys))) := by
  refine RCall.of hm cF_base_Marks (by simp [g_base_Marks]) fun hw h' _ => ?_
  have hx := wf_len (hw _ (.head _))
  simp only [F_base_Marks, g_base_Marks, go_sem, reduceIte, Nat.reduceEqDiff, Nat.reduceAdd, Nat.reduceMul, Nat.reduceSub, reduceCtorEq, Nat.reduceLeDiff, Nat.reduceLT, Int.reduceLT, Int.reduceLE, Int.reduceToNat, Int.reduceAdd, Int.reduceSub, Int.reduceNeg, Int.reduceMul, Int.reduceEq, ← Bool.decide_and, ← Bool.decide_or, ↓tq_n, ↓tq_e, ↓tq_r, ↓bq_n, ↓bq_e, ↓bq_r, ↓rq_n, ↓rq_r, ↓rq_e]
  refine ⟨fun hne => ?_, fun heq => ?_⟩
  · have : xs ≠ ys := fun hh => by subst hh; exact hne rfl
    exact ret_ok (by simp [this])
  have hl : xs.length = ys.length := by omega
  refine awp_loop (fun i : Nat => [(0, .sl nl1 xs.length (prs xs) tl1), (1, .sl nl2 ys.length (prs ys) tl2), (5, I i)]) (fun _ => h') (fun i => i ≤ xs.length ∧ ∀ j, j < i → xs.getD j (0, 0) = ys.getD j (0, 0)) (fun i => xs.length - i) 0 ⟨by omega, by omega⟩ (GStep.forget (by repeat' first | exact EnvLe.nil _ | refine EnvLe.cons (AV.le.of_eq rfl) ?_ | refine EnvLe.cons (AV.le.undef _) ?_ | refine EnvLe.cons AV.le.unk ?_) (by repeat' first | exact AH.le.refl _ | assumption | (refine AH.le_put ?_ (by first | assumption | exact (AH.blk_put_ne _ _ (by assumption)).trans (by assumption) | exact AH.none_put (by assumption) | exact AH.none_put (AH.none_put (by assumption)) | (simp only [AH.blk_setTok, AH.tok_put] at *; first | assumption | exact AH.none_put (by assumption)))) | (refine AH.le_setTok ?_ (by first | assumption | exact (AH.blk_put_ne _ _ (by assumption)).trans (by assumption) | exact AH.none_put (by assumption) | exact AH.none_put (AH.none_put (by assumption)) | (simp only [AH.blk_setTok, AH.tok_put] at *; first | assumption | exact AH.none_put (by assumption)))) | (refine AH.le_putM ?_ (by first | assumption | exact (AH.mp_putM_ne _ _ (by assumption)).trans (by assumption) | (simp only [AH.mp_put, AH.mp_setTok] at *; assumption))))) fun i hi => .of_vg hm ?_
  obtain ⟨h1, h2⟩ := hi
  by_cases hc : i < xs.length
  · have hc1 : (i : Int) < (xs.length : Int) := by omega
    have hc2 : (i : Int) < (ys.length : Int) := by omega
    simp only [hc1, hc2, prs_drop hc, prs_drop (show i < ys.length by omega), eqCells, F_base_Marks, g_base_Marks, go_sem, reduceIte, Nat.reduceEqDiff, Nat.reduceAdd, Nat.reduceMul, Nat.reduceSub, reduceCtorEq, Nat.reduceLeDiff, Nat.reduceLT, Int.reduceLT, Int.reduceLE, Int.reduceToNat, Int.reduceAdd, Int.reduceSub, Int.reduceNeg, Int.reduceMul, Int.reduceEq, ← Bool.decide_and, ← Bool.decide_or, ↓tq_n, ↓tq_e, ↓tq_r, ↓bq_n, ↓bq_e, ↓bq_r, ↓rq_n, ↓rq_r, ↓rq_e]
    refine ⟨fun hne => ?_, fun heq' => ?_⟩
    · have : xs ≠ ys := fun hh => by subst hh; exact hne ⟨rfl, rfl⟩
      exact ret_ok (by simp [this])
    · have e1 : xs.getD i (0, 0) = ys.getD i (0, 0) := Prod.ext heq'.1 heq'.2
      exact ⟨by rw [inR64]; omega, i + 1, ⟨by omega, all_succ h2 e1⟩, by omega, (GStep.forget (by repeat' first | exact EnvLe.nil _ | refine EnvLe.cons (AV.le.of_eq rfl) ?_ | refine EnvLe.cons (AV.le.undef _) ?_ | refine EnvLe.cons AV.le.unk ?_) (by repeat' first | exact AH.le.refl _ | assumption | (refine AH.le_put ?_ (by first | assumption | exact (AH.blk_put_ne _ _ (by assumption)).trans (by assumption) | exact AH.none_put (by assumption) | exact AH.none_put (AH.none_put (by assumption)) | (simp only [AH.blk_setTok, AH.tok_put] at *; first | assumption | exact AH.none_put (by assumption)))) | (refine AH.le_setTok ?_ (by first | assumption | exact (AH.blk_put_ne _ _ (by assumption)).trans (by assumption) | exact AH.none_put (by assumption) | exact AH.none_put (AH.none_put (by assumption)) | (simp only [AH.blk_setTok, AH.tok_put] at *; first | assumption | exact AH.none_put (by assumption)))) | (refine AH.le_putM ?_ (by first | assumption | exact (AH.mp_putM_ne _ _ (by assumption)).trans (by assumption) | (simp only [AH.mp_put, AH.mp_setTok] at *; assumption)))))⟩
  · have h3 : i = xs.length := by omega
    subst h3
    simp only [F_base_Marks, g_base_Marks, go_sem, reduceIte, Nat.reduceEqDiff, Nat.reduceAdd, Nat.reduceMul, Nat.reduceSub, reduceCtorEq, Nat.reduceLeDiff, Nat.reduceLT, Int.reduceLT, Int.reduceLE, Int.reduceToNat, Int.reduceAdd, Int.reduceSub, Int.reduceNeg, Int.reduceMul, Int.reduceEq, ← Bool.decide_and, ← Bool.decide_or, ↓tq_n, ↓tq_e, ↓tq_r, ↓bq_n, ↓bq_e, ↓bq_r, ↓rq_n, ↓rq_r, ↓rq_e]
    have : xs = ys := getD_gext (0, 0) hl h2
    exact ret_ok (by simp [this])
theorem r_slices_Equal_Decision (nl1 : Bool) (xs : List Dec) (tl1 : Tail) (nl2 : Bool) (ys : List Dec) (tl2 : Tail) (h : AH) :
    RCall Try.prog n_slices_Equal_Decision [.sl nl1 xs.length (dcs xs) tl1, .sl nl2 ys.length (dcs ys) tl2] h (.bool (decide (xs = ys))) := by
  refine RCall.of hm cF_slices_Equal_Decision (by simp [g_slices_Equal_Decision]) fun hw h' _ => ?_
  have hx := wf_len (hw _ (.head _))
  simp only [F_slices_Equal_Decision, g_slices_Equal_Decision, go_sem, reduceIte, Nat.reduceEqDiff, Nat.reduceAdd, Nat.reduceMul, Nat.reduceSub, reduceCtorEq, Nat.reduceLeDiff, Nat.reduceLT, Int.reduceLT, Int.reduceLE, Int.reduceToNat, Int.reduceAdd, Int.reduceSub, Int.reduceNeg, Int.reduceMul, Int.reduceEq, ← Bool.decide_and, ← Bool.decide_or, ↓tq_n, ↓tq_e, ↓tq_r, ↓bq_n, ↓bq_e, ↓bq_r, ↓rq_n, ↓rq_r, ↓rq_e]
  refine ⟨fun hne => ?_, fun heq => ?_⟩
  · have : xs ≠ ys := fun hh => by subst hh; exact hne rfl
    exact ret_ok (by simp [this])
  have hl : xs.length = ys.length := by omega
  refine awp_loop (fun i : Nat => [(0, .sl nl1 xs.length (dcs xs) tl1), (1, .sl nl2 ys.length (dcs ys) tl2), (12, I xs.length), (13, I i)]) (fun _ => h') (fun i => i ≤ xs.length ∧ ∀ j, j < i → xs.getD j dD = ys.getD j dD) (fun i => xs.length - i) 0 ⟨by omega, by omega⟩ (GStep.forget (by repeat' first | exact EnvLe.nil _ | refine EnvLe.cons (AV.le.of_eq rfl) ?_ | refine EnvLe.cons (AV.le.undef _) ?_ | refine EnvLe.cons AV.le.unk ?_) (by repeat' first | exact AH.le.refl _ | assumption | (refine AH.le_put ?_ (by first | assumption | exact (AH.blk_put_ne _ _ (by assumption)).trans (by assumption) | exact AH.none_put (by assumption) | exact AH.none_put (AH.none_put (by assumption)) | (simp only [AH.blk_setTok, AH.tok_put] at *; first | assumption | exact AH.none_put (by assumption)))) | (refine AH.le_setTok ?_ (by first | assumption | exact (AH.blk_put_ne _ _ (by assumption)).trans (by assumption) | exact AH.none_put (by assumption) | exact AH.none_put (AH.none_put (by assumption)) | (simp only [AH.blk_setTok, AH.tok_put] at *; first | assumption | exact AH.none_put (by assumption)))) | (refine AH.le_putM ?_ (by first | assumption | exact (AH.mp_putM_ne _ _ (by assumption)).trans (by assumption) | (simp only [AH.mp_put, AH.mp_setTok] at *; assumption))))) fun i hi => .of_vg hm ?_
  obtain ⟨h1, h2⟩ := hi
  by_cases hc : i < xs.length
  · have hc1 : (i : Int) < (xs.length : Int) := by omega
    have hc2 : (i : Int) < (ys.length : Int) := by omega
    simp only [hc1, hc2, dcs_drop hc, dcs_drop (show i < ys.length by omega), eqCells, F_slices_Equal_Decision, g_slices_Equal_Decision, go_sem, reduceIte, Nat.reduceEqDiff, Nat.reduceAdd, Nat.reduceMul, Nat.reduceSub, reduceCtorEq, Nat.reduceLeDiff, Nat.reduceLT, Int.reduceLT, Int.reduceLE, Int.reduceToNat, Int.reduceAdd, Int.reduceSub, Int.reduceNeg, Int.reduceMul, Int.reduceEq, ← Bool.decide_and, ← Bool.decide_or, ↓tq_n, ↓tq_e, ↓tq_r, ↓bq_n, ↓bq_e, ↓bq_r, ↓rq_n, ↓rq_r, ↓rq_e]
    refine ⟨fun hne => ?_, fun heq' => ?_⟩
    · have : xs ≠ ys := fun hh => by subst hh; exact hne ⟨rfl, rfl, rfl, rfl, rfl⟩
      exact ret_ok (by simp [this])
    · have e1 : xs.getD i dD = ys.getD i dD := Dec.ext' heq'
      exact ⟨by rw [inR64]; omega, i + 1, ⟨by omega, all_succ h2 e1⟩, by omega, (GStep.forget (by repeat' first | exact EnvLe.nil _ | refine EnvLe.cons (AV.le.of_eq rfl) ?_ | refine EnvLe.cons (AV.le.undef _) ?_ | refine EnvLe.cons AV.le.unk ?_) (by repeat' first | exact AH.le.refl _ | assumption | (refine AH.le_put ?_ (by first | assumption | exact (AH.blk_put_ne _ _ (by assumption)).trans (by assumption) | exact AH.none_put (by assumption) | exact AH.none_put (AH.none_put (by assumption)) | (simp only [AH.blk_setTok, AH.tok_put] at *; first | assumption | exact AH.none_put (by assumption)))) | (refine AH.le_setTok ?_ (by first | assumption | exact (AH.blk_put_ne _ _ (by assumption)).trans (by assumption) | exact AH.none_put (by assumption) | exact AH.none_put (AH.none_put (by assumption)) | (simp only [AH.blk_setTok, AH.tok_put] at *; first | assumption | exact AH.none_put (by assumption)))) | (refine AH.le_putM ?_ (by first | assumption | exact (AH.mp_putM_ne _ _ (by assumption)).trans (by assumption) | (simp only [AH.mp_put, AH.mp_setTok] at *; assumption)))))⟩
  · have h3 : i = xs.length := by omega
    subst h3
    simp only [F_slices_Equal_Decision, g_slices_Equal_Decision, go_sem, reduceIte, Nat.reduceEqDiff, Nat.reduceAdd, Nat.reduceMul, Nat.reduceSub, reduceCtorEq, Nat.reduceLeDiff, Nat.reduceLT, Int.reduceLT, Int.reduceLE, Int.reduceToNat, Int.reduceAdd, Int.reduceSub, Int.reduceNeg, Int.reduceMul, Int.reduceEq, ← Bool.decide_and, ← Bool.decide_or, ↓tq_n, ↓tq_e, ↓tq_r, ↓bq_n, ↓bq_e, ↓bq_r, ↓rq_n, ↓rq_r, ↓rq_e]
    have : xs = ys := getD_gext dD hl h2
    exact ret_ok (by simp [this])
theorem r_slices_Equal_Mark (nl1 : Bool) (xs : List (Int × Int)) (tl1 : Tail) (nl2 : Bool) (ys : List (Int × Int)) (tl2 : Tail) (h : AH) :
    RCall Try.prog n_slices_Equal_Mark [.sl nl1 xs.length (prs xs) tl1, .sl nl2 ys.length (prs ys) tl2] h (.bool (decide (xs = ys))) := by
  refine RCall.of hm cF_slices_Equal_Mark (by simp [g_slices_Equal_Mark]) fun hw h' _ => ?_
  have hx := wf_len (hw _ (.head _))
  simp only [F_slices_Equal_Mark, g_slices_Equal_Mark, go_sem, reduceIte, Nat.reduceEqDiff, Nat.reduceAdd, Nat.reduceMul, Nat.reduceSub, reduceCtorEq, Nat.reduceLeDiff, Nat.reduceLT, Int.reduceLT, Int.reduceLE, Int.reduceToNat, Int.reduceAdd, Int.reduceSub, Int.reduceNeg, Int.reduceMul, Int.reduceEq, ← Bool.decide_and, ← Bool.decide_or, ↓tq_n, ↓tq_e, ↓tq_r, ↓bq_n, ↓bq_e, ↓bq_r, ↓rq_n, ↓rq_r, ↓rq_e]
  refine ⟨fun hne => ?_, fun heq => ?_⟩
  · have : xs ≠ ys := fun hh => by subst hh; exact hne rfl
    exact ret_ok (by simp [this])
  have hl : xs.length = ys.length := by omega
  refine awp_loop (fun i : Nat => [(0, .sl nl1 xs.length (prs xs) tl1), (1, .sl nl2 ys.length (prs ys) tl2), (12, I xs.length), (13, I i)]) (fun _ => h') (fun i => i ≤ xs.length ∧ ∀ j, j < i → xs.getD j (0, 0) = ys.getD j (0, 0)) (fun i => xs.length - i) 0 ⟨by omega, by omega⟩ (GStep.forget (by repeat' first | exact EnvLe.nil _ | refine EnvLe.cons (AV.le.of_eq rfl) ?_ | refine EnvLe.cons (AV.le.undef _) ?_ | refine EnvLe.cons AV.le.unk ?_) (by repeat' first | exact AH.le.refl _ | assumption | (refine AH.le_put ?_ (by first | assumption | exact (AH.blk_put_ne _ _ (by assumption)).trans (by assumption) | exact AH.none_put (by assumption) | exact AH.none_put (AH.none_put (by assumption)) | (simp only [AH.blk_setTok, AH.tok_put] at *; first | assumption | exact AH.none_put (by assumption)))) | (refine AH.le_setTok ?_ (by first | assumption | exact (AH.blk_put_ne _ _ (by assumption)).trans (by assumption) | exact AH.none_put (by assumption) | exact AH.none_put (AH.none_put (by assumption)) | (simp only [AH.blk_setTok, AH.tok_put] at *; first | assumption | exact AH.none_put (by assumption)))) | (refine AH.le_putM ?_ (by first | assumption | exact (AH.mp_putM_ne _ _ (by assumption)).trans (by assumption) | (simp only [AH.mp_put, AH.mp_setTok] at *; assumption))))) fun i hi => .of_vg hm ?_
  obtain ⟨h1, h2⟩ := hi
  by_cases hc : i < xs.length
  · have hc1 : (i : Int) < (xs.length : Int) := by omega
    have hc2 : (i : Int) < (ys.length : Int) := by omega
    simp only [hc1, hc2, prs_drop hc, prs_drop (show i < ys.length by omega), eqCells, F_slices_Equal_Mark, g_slices_Equal_Mark, go_sem, reduceIte, Nat.reduceEqDiff, Nat.reduceAdd, Nat.reduceMul, Nat.reduceSub, reduceCtorEq, Nat.reduceLeDiff, Nat.reduceLT, Int.reduceLT, Int.reduceLE, Int.reduceToNat, Int.reduceAdd, Int.reduceSub, Int.reduceNeg, Int.reduceMul, Int.reduceEq, ← Bool.decide_and, ← Bool.decide_or, ↓tq_n, ↓tq_e, ↓tq_r, ↓bq_n, ↓bq_e, ↓bq_r, ↓rq_n, ↓rq_r, ↓rq_e]
    refine ⟨fun hne => ?_, fun heq' => ?_⟩
    · have : xs ≠ ys := fun hh => by subst hh; exact hne ⟨rfl, rfl⟩
      exact ret_ok (by simp [this])
    · have e1 : xs.getD i (0, 0) = ys.getD i (0, 0) := Prod.ext heq'.1 heq'.2
      exact ⟨by rw [inR64]; omega, i + 1, ⟨by omega, all_succ h2 e1⟩, by omega, (GStep.forget (by repeat' first | exact EnvLe.nil _ | refine EnvLe.cons (AV.le.of_eq rfl) ?_ | refine EnvLe.cons (AV.le.undef _) ?_ | refine EnvLe.cons AV.le.unk ?_) (by repeat' first | exact AH.le.refl _ | assumption | (refine AH.le_put ?_ (by first | assumption | exact (AH.blk_put_ne _ _ (by assumption)).trans (by assumption) | exact AH.none_put (by assumption) | exact AH.none_put (AH.none_put (by assumption)) | (simp only [AH.blk_setTok, AH.tok_put] at *; first | assumption | exact AH.none_put (by assumption)))) | (refine AH.le_setTok ?_ (by first | assumption | exact (AH.blk_put_ne _ _ (by assumption)).trans (by assumption) | exact AH.none_put (by assumption) | exact AH.none_put (AH.none_put (by assumption)) | (simp only [AH.blk_setTok, AH.tok_put] at *; first | assumption | exact AH.none_put (by assumption)))) | (refine AH.le_putM ?_ (by first | assumption | exact (AH.mp_putM_ne _ _ (by assumption)).trans (by assumption) | (simp only [AH.mp_put, AH.mp_setTok] at *; assumption)))))⟩
  · have h3 : i = xs.length := by omega
    subst h3
    simp only [F_slices_Equal_Mark, g_slices_Equal_Mark, go_sem, reduceIte, Nat.reduceEqDiff, Nat.reduceAdd, Nat.reduceMul, Nat.reduceSub, reduceCtorEq, Nat.reduceLeDiff, Nat.reduceLT, Int.reduceLT, Int.reduceLE, Int.reduceToNat, Int.reduceAdd, Int.reduceSub, Int.reduceNeg, Int.reduceMul, Int.reduceEq, ← Bool.decide_and, ← Bool.decide_or, ↓tq_n, ↓tq_e, ↓tq_r, ↓bq_n, ↓bq_e, ↓bq_r, ↓rq_n, ↓rq_r, ↓rq_e]
    have : xs = ys := getD_gext (0, 0) hl h2
    exact ret_ok (by simp [this])
theorem r_maps_Values (b : Nat) (h : AH) : RCall Try.prog n_maps_Values_DecisionX [.map b] h (.fn 63 [.sptr [.map b]]) := by
  refine RCall.of hm cF_maps_Values_DecisionX (by simp [g_maps_Values_DecisionX]) fun hw h' hl => ?_
  simp only [F_maps_Values_DecisionX, g_maps_Values_DecisionX, go_sem, reduceIte, Nat.reduceEqDiff, Nat.reduceAdd, Nat.reduceMul, Nat.reduceSub, reduceCtorEq, Nat.reduceLeDiff, Nat.reduceLT, Int.reduceLT, Int.reduceLE, Int.reduceToNat, Int.reduceAdd, Int.reduceSub, Int.reduceNeg, Int.reduceMul, Int.reduceEq, ← Bool.decide_and, ← Bool.decide_or, ↓tq_n, ↓tq_e, ↓tq_r, ↓bq_n, ↓bq_e, ↓bq_r, ↓rq_n, ↓rq_r, ↓rq_e]
  exact ret_ok rfl
theorem r_maps_Keys (b : Nat) (h : AH) : RCall Try.prog n_maps_Keys_boolX [.map b] h (.fn 68 [.sptr [.map b]]) := by
  refine RCall.of hm cF_maps_Keys_boolX (by simp [g_maps_Keys_boolX]) fun hw h' hl => ?_
  simp only [F_maps_Keys_boolX, g_maps_Keys_boolX, go_sem, reduceIte, Nat.reduceEqDiff, Nat.reduceAdd, Nat.reduceMul, Nat.reduceSub, reduceCtorEq, Nat.reduceLeDiff, Nat.reduceLT, Int.reduceLT, Int.reduceLE, Int.reduceToNat, Int.reduceAdd, Int.reduceSub, Int.reduceNeg, Int.reduceMul, Int.reduceEq, ← Bool.decide_and, ← Bool.decide_or, ↓tq_n, ↓tq_e, ↓tq_r, ↓bq_n, ↓bq_e, ↓bq_r, ↓rq_n, ↓rq_r, ↓rq_e]
  exact ret_ok rfl
theorem asc_ltD {D : List Dec} (h : D.Pairwise ltD) : D.Pairwise fun x y => ltOf cfD x y = true := h.imp fun {x y} hh => (ltD_iff x y).2 hh
theorem asc_ltM {D : List (Int × Int)} (h : D.Pairwise mlt) : D.Pairwise fun x y => ltOf cfM x y = true := h.imp fun {x y} hh => (ltM_iff x y).2 hh
theorem Led.mono {h h' : AH} {lb b1 b2 : Nat} {s : St} (k : Led h lb b1 b2 s) (hl : h.leB h') : Led h' lb b1 b2 s := ⟨hl.1 _ _ k.blk, hl.2 _ _ k.m1, hl.2 _ _ k.m2, k.ne⟩
/-- A list as an answer. -/
def lsD (D : List Dec) : AV := .sl (decide (D = [])) D.length (dcs D) .unk
def lsM (D : List (Int × Int)) : AV := .sl (decide (D = [])) D.length (prs D) .unk
theorem r_decision_Ledger_Made (lb b1 b2 : Nat) (s : St) (ok : OKs s) (h : AH) (k : Led h lb b1 b2 s) : RCall Try.prog n_decision_Ledger_Made [.ptr lb 0] h (lsD (srtD s.1)) := by
  refine RCall.of hm cF_decision_Ledger_Made (by simp [g_decision_Ledger_Made]) fun hw h' hl => ?_
  have hb := hl.1 _ _ k.blk
  have h1 := hl.2 _ _ k.m1
  simp only [hb, F_decision_Ledger_Made, g_decision_Ledger_Made, go_sem, reduceIte, Nat.reduceEqDiff, Nat.reduceAdd, Nat.reduceMul, Nat.reduceSub, reduceCtorEq, Nat.reduceLeDiff, Nat.reduceLT, Int.reduceLT, Int.reduceLE, Int.reduceToNat, Int.reduceAdd, Int.reduceSub, Int.reduceNeg, Int.reduceMul, Int.reduceEq, ← Bool.decide_and, ← Bool.decide_or, ↓tq_n, ↓tq_e, ↓tq_r, ↓bq_n, ↓bq_e, ↓bq_r, ↓rq_n, ↓rq_r, ↓rq_e]
  refine CallG.mk (r_maps_Values b1 _) ?_
  simp only [F_decision_Ledger_Made, g_decision_Ledger_Made, go_sem, reduceIte, Nat.reduceEqDiff, Nat.reduceAdd, Nat.reduceMul, Nat.reduceSub, reduceCtorEq, Nat.reduceLeDiff, Nat.reduceLT, Int.reduceLT, Int.reduceLE, Int.reduceToNat, Int.reduceAdd, Int.reduceSub, Int.reduceNeg, Int.reduceMul, Int.reduceEq, ← Bool.decide_and, ← Bool.decide_or, ↓tq_n, ↓tq_e, ↓tq_r, ↓bq_n, ↓bq_e, ↓bq_r, ↓rq_n, ↓rq_r, ↓rq_e]
  refine CallG.mk (r_slices_SortedFunc5 b1 (enD s.1) (srtD s.1) s.1 _ h1 (by simp [enD, stD, Function.comp_def]) (srtD_perm s.1).symm (asc_ltD (srtD_asc ok.dst)) (by rw [srtD_len]; have := ok.few.1; omega)) ?_
  simp only [F_decision_Ledger_Made, g_decision_Ledger_Made, go_sem, reduceIte, Nat.reduceEqDiff, Nat.reduceAdd, Nat.reduceMul, Nat.reduceSub, reduceCtorEq, Nat.reduceLeDiff, Nat.reduceLT, Int.reduceLT, Int.reduceLE, Int.reduceToNat, Int.reduceAdd, Int.reduceSub, Int.reduceNeg, Int.reduceMul, Int.reduceEq, ← Bool.decide_and, ← Bool.decide_or, ↓tq_n, ↓tq_e, ↓tq_r, ↓bq_n, ↓bq_e, ↓bq_r, ↓rq_n, ↓rq_r, ↓rq_e]
  exact ret_ok rfl
theorem r_decision_Ledger_Withdrawn (lb b1 b2 : Nat) (s : St) (ok : OKs s) (h : AH) (k : Led h lb b1 b2 s) : RCall Try.prog n_decision_Ledger_Withdrawn [.ptr lb 0] h (lsM (srtM s.2)) := by
  refine RCall.of hm cF_decision_Ledger_Withdrawn (by simp [g_decision_Ledger_Withdrawn]) fun hw h' hl => ?_
  have hb := hl.1 _ _ k.blk
  have h1 := hl.2 _ _ k.m2
  simp only [hb, F_decision_Ledger_Withdrawn, g_decision_Ledger_Withdrawn, go_sem, reduceIte, Nat.reduceEqDiff, Nat.reduceAdd, Nat.reduceMul, Nat.reduceSub, reduceCtorEq, Nat.reduceLeDiff, Nat.reduceLT, Int.reduceLT, Int.reduceLE, Int.reduceToNat, Int.reduceAdd, Int.reduceSub, Int.reduceNeg, Int.reduceMul, Int.reduceEq, ← Bool.decide_and, ← Bool.decide_or, ↓tq_n, ↓tq_e, ↓tq_r, ↓bq_n, ↓bq_e, ↓bq_r, ↓rq_n, ↓rq_r, ↓rq_e]
  refine CallG.mk (r_maps_Keys b2 _) ?_
  simp only [F_decision_Ledger_Withdrawn, g_decision_Ledger_Withdrawn, go_sem, reduceIte, Nat.reduceEqDiff, Nat.reduceAdd, Nat.reduceMul, Nat.reduceSub, reduceCtorEq, Nat.reduceLeDiff, Nat.reduceLT, Int.reduceLT, Int.reduceLE, Int.reduceToNat, Int.reduceAdd, Int.reduceSub, Int.reduceNeg, Int.reduceMul, Int.reduceEq, ← Bool.decide_and, ← Bool.decide_or, ↓tq_n, ↓tq_e, ↓tq_r, ↓bq_n, ↓bq_e, ↓bq_r, ↓rq_n, ↓rq_r, ↓rq_e]
  refine CallG.mk (r_slices_SortedFunc2 b2 (enM s.2) (srtM s.2) s.2 _ h1 (by simp [enM, stM, Function.comp_def]) (srtM_perm s.2).symm (asc_ltM (srtM_asc ok.nd)) (by rw [srtM_len]; have := ok.few.2; omega)) ?_
  simp only [F_decision_Ledger_Withdrawn, g_decision_Ledger_Withdrawn, go_sem, reduceIte, Nat.reduceEqDiff, Nat.reduceAdd, Nat.reduceMul, Nat.reduceSub, reduceCtorEq, Nat.reduceLeDiff, Nat.reduceLT, Int.reduceLT, Int.reduceLE, Int.reduceToNat, Int.reduceAdd, Int.reduceSub, Int.reduceNeg, Int.reduceMul, Int.reduceEq, ← Bool.decide_and, ← Bool.decide_or, ↓tq_n, ↓tq_e, ↓tq_r, ↓bq_n, ↓bq_e, ↓bq_r, ↓rq_n, ↓rq_r, ↓rq_e]
  exact ret_ok rfl
/-- Of no ledger. -/
theorem r_Made_nil (h : AH) : RCall Try.prog n_decision_Ledger_Made [.nilp] h (.sl true 0 [] .full) := by
  refine RCall.of hm cF_decision_Ledger_Made (by simp [g_decision_Ledger_Made]) fun hw h' hl => ?_
  simp only [F_decision_Ledger_Made, g_decision_Ledger_Made, go_sem, reduceIte, Nat.reduceEqDiff, Nat.reduceAdd, Nat.reduceMul, Nat.reduceSub, reduceCtorEq, Nat.reduceLeDiff, Nat.reduceLT, Int.reduceLT, Int.reduceLE, Int.reduceToNat, Int.reduceAdd, Int.reduceSub, Int.reduceNeg, Int.reduceMul, Int.reduceEq, ← Bool.decide_and, ← Bool.decide_or, ↓tq_n, ↓tq_e, ↓tq_r, ↓bq_n, ↓bq_e, ↓bq_r, ↓rq_n, ↓rq_r, ↓rq_e]
  exact ret_ok rfl
theorem r_Withdrawn_nil (h : AH) : RCall Try.prog n_decision_Ledger_Withdrawn [.nilp] h (.sl true 0 [] .full) := by
  refine RCall.of hm cF_decision_Ledger_Withdrawn (by simp [g_decision_Ledger_Withdrawn]) fun hw h' hl => ?_
  simp only [F_decision_Ledger_Withdrawn, g_decision_Ledger_Withdrawn, go_sem, reduceIte, Nat.reduceEqDiff, Nat.reduceAdd, Nat.reduceMul, Nat.reduceSub, reduceCtorEq, Nat.reduceLeDiff, Nat.reduceLT, Int.reduceLT, Int.reduceLE, Int.reduceToNat, Int.reduceAdd, Int.reduceSub, Int.reduceNeg, Int.reduceMul, Int.reduceEq, ← Bool.decide_and, ← Bool.decide_or, ↓tq_n, ↓tq_e, ↓tq_r, ↓bq_n, ↓bq_e, ↓bq_r, ↓rq_n, ↓rq_r, ↓rq_e]
  exact ret_ok rfl
theorem r_decision_Ledger_Same (la a1 a2 lb b1 b2 : Nat) (s t : St) (ok : OKs s) (ok2 : OKs t) (h : AH) (k : Led h la a1 a2 s) (k2 : Led h lb b1 b2 t) : RCall Try.prog n_decision_Ledger_Same [.ptr la 0, .ptr lb 0] h (.bool (decide (srS s = srS t))) := by
  refine RCall.of hm cF_decision_Ledger_Same (by simp [g_decision_Ledger_Same]) fun hw h' hl => ?_
  have k := k.mono hl
  have k2 := k2.mono hl
  have e1 : decide (srS s = srS t) = (decide (srtD s.1 = srtD t.1) && decide (srtM s.2 = srtM t.2)) := by
    rw [← Bool.decide_and]
    exact decide_eq_decide.2 ⟨fun hh => ⟨congrArg Prod.fst hh, congrArg Prod.snd hh⟩, fun hh => Prod.ext hh.1 hh.2⟩
  simp only [F_decision_Ledger_Same, g_decision_Ledger_Same, go_sem, reduceIte, Nat.reduceEqDiff, Nat.reduceAdd, Nat.reduceMul, Nat.reduceSub, reduceCtorEq, Nat.reduceLeDiff, Nat.reduceLT, Int.reduceLT, Int.reduceLE, Int.reduceToNat, Int.reduceAdd, Int.reduceSub, Int.reduceNeg, Int.reduceMul, Int.reduceEq, ← Bool.decide_and, ← Bool.decide_or, ↓tq_n, ↓tq_e, ↓tq_r, ↓bq_n, ↓bq_e, ↓bq_r, ↓rq_n, ↓rq_r, ↓rq_e]
  refine CallG.mk (r_decision_Ledger_Made la a1 a2 s ok _ k) ?_
  simp only [F_decision_Ledger_Same, g_decision_Ledger_Same, go_sem, reduceIte, Nat.reduceEqDiff, Nat.reduceAdd, Nat.reduceMul, Nat.reduceSub, reduceCtorEq, Nat.reduceLeDiff, Nat.reduceLT, Int.reduceLT, Int.reduceLE, Int.reduceToNat, Int.reduceAdd, Int.reduceSub, Int.reduceNeg, Int.reduceMul, Int.reduceEq, ← Bool.decide_and, ← Bool.decide_or, ↓tq_n, ↓tq_e, ↓tq_r, ↓bq_n, ↓bq_e, ↓bq_r, ↓rq_n, ↓rq_r, ↓rq_e]
  refine CallG.mk (r_decision_Ledger_Made lb b1 b2 t ok2 _ k2) ?_
  simp only [lsD, F_decision_Ledger_Same, g_decision_Ledger_Same, go_sem, reduceIte, Nat.reduceEqDiff, Nat.reduceAdd, Nat.reduceMul, Nat.reduceSub, reduceCtorEq, Nat.reduceLeDiff, Nat.reduceLT, Int.reduceLT, Int.reduceLE, Int.reduceToNat, Int.reduceAdd, Int.reduceSub, Int.reduceNeg, Int.reduceMul, Int.reduceEq, ← Bool.decide_and, ← Bool.decide_or, ↓tq_n, ↓tq_e, ↓tq_r, ↓bq_n, ↓bq_e, ↓bq_r, ↓rq_n, ↓rq_r, ↓rq_e]
  refine CallG.mk (r_slices_Equal_Decision _ _ _ _ _ _ _) ?_
  by_cases c1 : srtD s.1 = srtD t.1
  case neg =>
    rw [decide_eq_false c1]
    simp only [F_decision_Ledger_Same, g_decision_Ledger_Same, go_sem, reduceIte, Nat.reduceEqDiff, Nat.reduceAdd, Nat.reduceMul, Nat.reduceSub, reduceCtorEq, Nat.reduceLeDiff, Nat.reduceLT, Int.reduceLT, Int.reduceLE, Int.reduceToNat, Int.reduceAdd, Int.reduceSub, Int.reduceNeg, Int.reduceMul, Int.reduceEq, ← Bool.decide_and, ← Bool.decide_or, ↓tq_n, ↓tq_e, ↓tq_r, ↓bq_n, ↓bq_e, ↓bq_r, ↓rq_n, ↓rq_r, ↓rq_e]
    exact ret_ok (by rw [e1, decide_eq_false c1]; rfl)
  rw [decide_eq_true c1]
  simp only [F_decision_Ledger_Same, g_decision_Ledger_Same, go_sem, reduceIte, Nat.reduceEqDiff, Nat.reduceAdd, Nat.reduceMul, Nat.reduceSub, reduceCtorEq, Nat.reduceLeDiff, Nat.reduceLT, Int.reduceLT, Int.reduceLE, Int.reduceToNat, Int.reduceAdd, Int.reduceSub, Int.reduceNeg, Int.reduceMul, Int.reduceEq, ← Bool.decide_and, ← Bool.decide_or, ↓tq_n, ↓tq_e, ↓tq_r, ↓bq_n, ↓bq_e, ↓bq_r, ↓rq_n, ↓rq_r, ↓rq_e]
  refine CallG.mk (r_decision_Ledger_Withdrawn la a1 a2 s ok _ k) ?_
  simp only [F_decision_Ledger_Same, g_decision_Ledger_Same, go_sem, reduceIte, Nat.reduceEqDiff, Nat.reduceAdd, Nat.reduceMul, Nat.reduceSub, reduceCtorEq, Nat.reduceLeDiff, Nat.reduceLT, Int.reduceLT, Int.reduceLE, Int.reduceToNat, Int.reduceAdd, Int.reduceSub, Int.reduceNeg, Int.reduceMul, Int.reduceEq, ← Bool.decide_and, ← Bool.decide_or, ↓tq_n, ↓tq_e, ↓tq_r, ↓bq_n, ↓bq_e, ↓bq_r, ↓rq_n, ↓rq_r, ↓rq_e]
  refine CallG.mk (r_decision_Ledger_Withdrawn lb b1 b2 t ok2 _ k2) ?_
  simp only [lsM, F_decision_Ledger_Same, g_decision_Ledger_Same, go_sem, reduceIte, Nat.reduceEqDiff, Nat.reduceAdd, Nat.reduceMul, Nat.reduceSub, reduceCtorEq, Nat.reduceLeDiff, Nat.reduceLT, Int.reduceLT, Int.reduceLE, Int.reduceToNat, Int.reduceAdd, Int.reduceSub, Int.reduceNeg, Int.reduceMul, Int.reduceEq, ← Bool.decide_and, ← Bool.decide_or, ↓tq_n, ↓tq_e, ↓tq_r, ↓bq_n, ↓bq_e, ↓bq_r, ↓rq_n, ↓rq_r, ↓rq_e]
  refine CallG.mk (r_slices_Equal_Mark _ _ _ _ _ _ _) ?_
  simp only [F_decision_Ledger_Same, g_decision_Ledger_Same, go_sem, reduceIte, Nat.reduceEqDiff, Nat.reduceAdd, Nat.reduceMul, Nat.reduceSub, reduceCtorEq, Nat.reduceLeDiff, Nat.reduceLT, Int.reduceLT, Int.reduceLE, Int.reduceToNat, Int.reduceAdd, Int.reduceSub, Int.reduceNeg, Int.reduceMul, Int.reduceEq, ← Bool.decide_and, ← Bool.decide_or, ↓tq_n, ↓tq_e, ↓tq_r, ↓bq_n, ↓bq_e, ↓bq_r, ↓rq_n, ↓rq_r, ↓rq_e]
  exact ret_ok (by rw [e1, decide_eq_true c1]; rfl)
/-- The reference's ledger. -/
theorem r_ref_Ledger_Made (rb : Nat) (q : RT) (s : St) (h : AH) (hb : h.blk rb = some (rbk q s)) : RCall Try.prog n_ref_Ledger_Made [.ptr rb 0] h (.sl q.1 s.1.length (dcs s.1) q.2.1) := by
  refine RCall.of hm cF_ref_Ledger_Made (by simp [g_ref_Ledger_Made]) fun hw h' hl => ?_
  have hb := hl.1 _ _ hb
  unfold rbk at hb
  simp only [hb, F_ref_Ledger_Made, g_ref_Ledger_Made, go_sem, reduceIte, Nat.reduceEqDiff, Nat.reduceAdd, Nat.reduceMul, Nat.reduceSub, reduceCtorEq, Nat.reduceLeDiff, Nat.reduceLT, Int.reduceLT, Int.reduceLE, Int.reduceToNat, Int.reduceAdd, Int.reduceSub, Int.reduceNeg, Int.reduceMul, Int.reduceEq, ← Bool.decide_and, ← Bool.decide_or, ↓tq_n, ↓tq_e, ↓tq_r, ↓bq_n, ↓bq_e, ↓bq_r, ↓rq_n, ↓rq_r, ↓rq_e]
  exact ret_ok rfl
theorem r_ref_Ledger_Withdrawn (rb : Nat) (q : RT) (s : St) (h : AH) (hb : h.blk rb = some (rbk q s)) : RCall Try.prog n_ref_Ledger_Withdrawn [.ptr rb 0] h (.sl q.2.2.1 s.2.length (prs s.2) q.2.2.2) := by
  refine RCall.of hm cF_ref_Ledger_Withdrawn (by simp [g_ref_Ledger_Withdrawn]) fun hw h' hl => ?_
  have hb := hl.1 _ _ hb
  unfold rbk at hb
  simp only [hb, F_ref_Ledger_Withdrawn, g_ref_Ledger_Withdrawn, go_sem, reduceIte, Nat.reduceEqDiff, Nat.reduceAdd, Nat.reduceMul, Nat.reduceSub, reduceCtorEq, Nat.reduceLeDiff, Nat.reduceLT, Int.reduceLT, Int.reduceLE, Int.reduceToNat, Int.reduceAdd, Int.reduceSub, Int.reduceNeg, Int.reduceMul, Int.reduceEq, ← Bool.decide_and, ← Bool.decide_or, ↓tq_n, ↓tq_e, ↓tq_r, ↓bq_n, ↓bq_e, ↓bq_r, ↓rq_n, ↓rq_r, ↓rq_e]
  exact ret_ok rfl
theorem r_ref_Ledger_Same (ra rb : Nat) (q r : RT) (s t : St) (h : AH) (ha : h.blk ra = some (rbk q s)) (hb : h.blk rb = some (rbk r t)) : RCall Try.prog n_ref_Ledger_Same [.ptr ra 0, .ptr rb 0] h (.bool (decide (s = t))) := by
  refine RCall.of hm cF_ref_Ledger_Same (by simp [g_ref_Ledger_Same]) fun hw h' hl => ?_
  have ha := hl.1 _ _ ha
  have hb := hl.1 _ _ hb
  have e1 : decide (s = t) = (decide (s.1 = t.1) && decide (s.2 = t.2)) := by
    rw [← Bool.decide_and]
    exact decide_eq_decide.2 ⟨fun hh => ⟨congrArg Prod.fst hh, congrArg Prod.snd hh⟩, fun hh => Prod.ext hh.1 hh.2⟩
  simp only [F_ref_Ledger_Same, g_ref_Ledger_Same, go_sem, reduceIte, Nat.reduceEqDiff, Nat.reduceAdd, Nat.reduceMul, Nat.reduceSub, reduceCtorEq, Nat.reduceLeDiff, Nat.reduceLT, Int.reduceLT, Int.reduceLE, Int.reduceToNat, Int.reduceAdd, Int.reduceSub, Int.reduceNeg, Int.reduceMul, Int.reduceEq, ← Bool.decide_and, ← Bool.decide_or, ↓tq_n, ↓tq_e, ↓tq_r, ↓bq_n, ↓bq_e, ↓bq_r, ↓rq_n, ↓rq_r, ↓rq_e]
  refine CallG.mk (r_ref_Ledger_Made ra q s _ ha) ?_
  simp only [F_ref_Ledger_Same, g_ref_Ledger_Same, go_sem, reduceIte, Nat.reduceEqDiff, Nat.reduceAdd, Nat.reduceMul, Nat.reduceSub, reduceCtorEq, Nat.reduceLeDiff, Nat.reduceLT, Int.reduceLT, Int.reduceLE, Int.reduceToNat, Int.reduceAdd, Int.reduceSub, Int.reduceNeg, Int.reduceMul, Int.reduceEq, ← Bool.decide_and, ← Bool.decide_or, ↓tq_n, ↓tq_e, ↓tq_r, ↓bq_n, ↓bq_e, ↓bq_r, ↓rq_n, ↓rq_r, ↓rq_e]
  refine CallG.mk (r_ref_Ledger_Made rb r t _ hb) ?_
  simp only [F_ref_Ledger_Same, g_ref_Ledger_Same, go_sem, reduceIte, Nat.reduceEqDiff, Nat.reduceAdd, Nat.reduceMul, Nat.reduceSub, reduceCtorEq, Nat.reduceLeDiff, Nat.reduceLT, Int.reduceLT, Int.reduceLE, Int.reduceToNat, Int.reduceAdd, Int.reduceSub, Int.reduceNeg, Int.reduceMul, Int.reduceEq, ← Bool.decide_and, ← Bool.decide_or, ↓tq_n, ↓tq_e, ↓tq_r, ↓bq_n, ↓bq_e, ↓bq_r, ↓rq_n, ↓rq_r, ↓rq_e]
  refine CallG.mk (r_base_Decisions _ _ _ _ _ _ _) ?_
  by_cases c1 : s.1 = t.1
  case neg =>
    rw [decide_eq_false c1]
    simp only [F_ref_Ledger_Same, g_ref_Ledger_Same, go_sem, reduceIte, Nat.reduceEqDiff, Nat.reduceAdd, Nat.reduceMul, Nat.reduceSub, reduceCtorEq, Nat.reduceLeDiff, Nat.reduceLT, Int.reduceLT, Int.reduceLE, Int.reduceToNat, Int.reduceAdd, Int.reduceSub, Int.reduceNeg, Int.reduceMul, Int.reduceEq, ← Bool.decide_and, ← Bool.decide_or, ↓tq_n, ↓tq_e, ↓tq_r, ↓bq_n, ↓bq_e, ↓bq_r, ↓rq_n, ↓rq_r, ↓rq_e]
    exact ret_ok (by rw [e1, decide_eq_false c1]; rfl)
  rw [decide_eq_true c1]
  simp only [F_ref_Ledger_Same, g_ref_Ledger_Same, go_sem, reduceIte, Nat.reduceEqDiff, Nat.reduceAdd, Nat.reduceMul, Nat.reduceSub, reduceCtorEq, Nat.reduceLeDiff, Nat.reduceLT, Int.reduceLT, Int.reduceLE, Int.reduceToNat, Int.reduceAdd, Int.reduceSub, Int.reduceNeg, Int.reduceMul, Int.reduceEq, ← Bool.decide_and, ← Bool.decide_or, ↓tq_n, ↓tq_e, ↓tq_r, ↓bq_n, ↓bq_e, ↓bq_r, ↓rq_n, ↓rq_r, ↓rq_e]
  refine CallG.mk (r_ref_Ledger_Withdrawn ra q s _ ha) ?_
  simp only [F_ref_Ledger_Same, g_ref_Ledger_Same, go_sem, reduceIte, Nat.reduceEqDiff, Nat.reduceAdd, Nat.reduceMul, Nat.reduceSub, reduceCtorEq, Nat.reduceLeDiff, Nat.reduceLT, Int.reduceLT, Int.reduceLE, Int.reduceToNat, Int.reduceAdd, Int.reduceSub, Int.reduceNeg, Int.reduceMul, Int.reduceEq, ← Bool.decide_and, ← Bool.decide_or, ↓tq_n, ↓tq_e, ↓tq_r, ↓bq_n, ↓bq_e, ↓bq_r, ↓rq_n, ↓rq_r, ↓rq_e]
  refine CallG.mk (r_ref_Ledger_Withdrawn rb r t _ hb) ?_
  simp only [F_ref_Ledger_Same, g_ref_Ledger_Same, go_sem, reduceIte, Nat.reduceEqDiff, Nat.reduceAdd, Nat.reduceMul, Nat.reduceSub, reduceCtorEq, Nat.reduceLeDiff, Nat.reduceLT, Int.reduceLT, Int.reduceLE, Int.reduceToNat, Int.reduceAdd, Int.reduceSub, Int.reduceNeg, Int.reduceMul, Int.reduceEq, ← Bool.decide_and, ← Bool.decide_or, ↓tq_n, ↓tq_e, ↓tq_r, ↓bq_n, ↓bq_e, ↓bq_r, ↓rq_n, ↓rq_r, ↓rq_e]
  refine CallG.mk (r_base_Marks _ _ _ _ _ _ _) ?_
  simp only [F_ref_Ledger_Same, g_ref_Ledger_Same, go_sem, reduceIte, Nat.reduceEqDiff, Nat.reduceAdd, Nat.reduceMul, Nat.reduceSub, reduceCtorEq, Nat.reduceLeDiff, Nat.reduceLT, Int.reduceLT, Int.reduceLE, Int.reduceToNat, Int.reduceAdd, Int.reduceSub, Int.reduceNeg, Int.reduceMul, Int.reduceEq, ← Bool.decide_and, ← Bool.decide_or, ↓tq_n, ↓tq_e, ↓tq_r, ↓bq_n, ↓bq_e, ↓bq_r, ↓rq_n, ↓rq_r, ↓rq_e]
  exact ret_ok (by rw [e1, decide_eq_true c1]; rfl)
end Go.Proofs.Ytcnmodnafnadlaa
