/- The law ColoringNumbers: its call returns true. No condition. -/
import Derived.Test.YticiimmfjdkimaaD7
namespace Go.Proofs.Yticiimmfjdkimaa
open Go Go.Abs
set_option linter.unusedSimpArgs false
set_option linter.unusedVariables false
set_option maxRecDepth 20000

def c5 : List (Int × Int) := [(0, 1), (0, 4), (1, 2), (2, 3), (3, 4)]
theorem c5_vd : Vd 5 c5 := by decide
theorem c5_chi : chi 5 c5 = 3 := by decide +kernel
theorem c5_col : col 5 c5 = [0, 1, 0, 1, 2] := by decide +kernel
def y3 : List (Int × Int) := [(1, 5), (3, 9), (6, 7)]
theorem y3_err : yerr y3 = 0 := by decide
theorem y3_bx : bxTo y3 3 = 2 := by decide +kernel

theorem r_law_awake (h : AH) : RCall Try.prog n_law_awake [] h (.bool true) := by
  refine RCall.of hm cF_law_awake (by simp [g_law_awake]) fun hw h' hl => ?_
  have h1 := r_coloring_Number false 5 c5 .full h'
  have h2 := r_coloring_Color false 5 c5 .full h'
  have h3 := r_coloring_Boxes false y3 .full h'
  rw [if_pos c5_vd, if_pos c5_vd, c5_chi] at h1
  rw [if_pos c5_vd, if_pos c5_vd, c5_col] at h2
  rw [if_pos y3_err, y3_err] at h3
  have h4 := r_base_Ints false false [0, 1, 0, 1, 2] [0, 1, 0, 1, 2] .unk .full h'
  have hb : bxTo y3 y3.length = 2 := y3_bx
  rw [hb] at h3
  simp only [F_law_awake, g_law_awake, go_sem, reduceIte, Nat.reduceEqDiff, Nat.reduceAdd, Nat.reduceMul, Nat.reduceSub, reduceCtorEq, Nat.reduceLeDiff, Nat.reduceLT, Int.reduceLT, Int.reduceLE, Int.reduceToNat, Int.reduceAdd, Int.reduceSub, Int.reduceNeg, Int.reduceMul, Int.reduceEq, ← Bool.decide_and, ← Bool.decide_or, ↓tq_n, ↓tq_e, ↓tq_r, ↓bq_n, ↓bq_e, ↓bq_r, ↓rq_n, ↓rq_r, ↓rq_e]
  refine CallG.mk h1 ?_
  simp only [F_law_awake, g_law_awake, go_sem, reduceIte, Nat.reduceEqDiff, Nat.reduceAdd, Nat.reduceMul, Nat.reduceSub, reduceCtorEq, Nat.reduceLeDiff, Nat.reduceLT, Int.reduceLT, Int.reduceLE, Int.reduceToNat, Int.reduceAdd, Int.reduceSub, Int.reduceNeg, Int.reduceMul, Int.reduceEq, ← Bool.decide_and, ← Bool.decide_or, ↓tq_n, ↓tq_e, ↓tq_r, ↓bq_n, ↓bq_e, ↓bq_r, ↓rq_n, ↓rq_r, ↓rq_e]
  refine CallG.mk h2 ?_
  simp only [F_law_awake, g_law_awake, go_sem, reduceIte, Nat.reduceEqDiff, Nat.reduceAdd, Nat.reduceMul, Nat.reduceSub, reduceCtorEq, Nat.reduceLeDiff, Nat.reduceLT, Int.reduceLT, Int.reduceLE, Int.reduceToNat, Int.reduceAdd, Int.reduceSub, Int.reduceNeg, Int.reduceMul, Int.reduceEq, ← Bool.decide_and, ← Bool.decide_or, ↓tq_n, ↓tq_e, ↓tq_r, ↓bq_n, ↓bq_e, ↓bq_r, ↓rq_n, ↓rq_r, ↓rq_e]
  refine CallG.mk h3 ?_
  simp only [F_law_awake, g_law_awake, go_sem, reduceIte, Nat.reduceEqDiff, Nat.reduceAdd, Nat.reduceMul, Nat.reduceSub, reduceCtorEq, Nat.reduceLeDiff, Nat.reduceLT, Int.reduceLT, Int.reduceLE, Int.reduceToNat, Int.reduceAdd, Int.reduceSub, Int.reduceNeg, Int.reduceMul, Int.reduceEq, ← Bool.decide_and, ← Bool.decide_or, ↓tq_n, ↓tq_e, ↓tq_r, ↓bq_n, ↓bq_e, ↓bq_r, ↓rq_n, ↓rq_r, ↓rq_e]
  refine CallG.mk h4 ?_
  simp only [F_law_awake, g_law_awake, go_sem, reduceIte, Nat.reduceEqDiff, Nat.reduceAdd, Nat.reduceMul, Nat.reduceSub, reduceCtorEq, Nat.reduceLeDiff, Nat.reduceLT, Int.reduceLT, Int.reduceLE, Int.reduceToNat, Int.reduceAdd, Int.reduceSub, Int.reduceNeg, Int.reduceMul, Int.reduceEq, ← Bool.decide_and, ← Bool.decide_or, ↓tq_n, ↓tq_e, ↓tq_r, ↓bq_n, ↓bq_e, ↓bq_r, ↓rq_n, ↓rq_r, ↓rq_e]
  refine ret_hb (by repeat' first | exact AH.le.refl _ | assumption | (refine AH.le_put ?_ (by first | assumption | exact (AH.blk_put_ne _ _ (by assumption)).trans (by assumption) | exact AH.none_put (by assumption) | exact AH.none_put (AH.none_put (by assumption)) | (simp only [AH.blk_setTok, AH.tok_put] at *; first | assumption | exact AH.none_put (by assumption)))) | (refine AH.le_setTok ?_ (by first | assumption | exact (AH.blk_put_ne _ _ (by assumption)).trans (by assumption) | exact AH.none_put (by assumption) | exact AH.none_put (AH.none_put (by assumption)) | (simp only [AH.blk_setTok, AH.tok_put] at *; first | assumption | exact AH.none_put (by assumption)))) | (refine AH.le_putM ?_ (by first | assumption | exact (AH.mp_putM_ne _ _ (by assumption)).trans (by assumption) | (simp only [AH.mp_put, AH.mp_setTok] at *; assumption)))) ?_
  rfl

theorem r_law_ColoringNumbers (nl : Bool) (n : Int) (e : List (Int × Int)) (tl : Tail) (h : AH) : RCall Try.prog n_law_ColoringNumbers [I n, .sl nl e.length (prs e) tl] h (.bool true) := by
  refine RCall.of hm cF_law_ColoringNumbers (by simp [g_law_ColoringNumbers]) fun hw h' hl => ?_
  simp only [F_law_ColoringNumbers, g_law_ColoringNumbers, go_sem, reduceIte, Nat.reduceEqDiff, Nat.reduceAdd, Nat.reduceMul, Nat.reduceSub, reduceCtorEq, Nat.reduceLeDiff, Nat.reduceLT, Int.reduceLT, Int.reduceLE, Int.reduceToNat, Int.reduceAdd, Int.reduceSub, Int.reduceNeg, Int.reduceMul, Int.reduceEq, ← Bool.decide_and, ← Bool.decide_or, ↓tq_n, ↓tq_e, ↓tq_r, ↓bq_n, ↓bq_e, ↓bq_r, ↓rq_n, ↓rq_r, ↓rq_e]
  refine CallG.mk (r_law_awake _) ?_
  simp only [F_law_ColoringNumbers, g_law_ColoringNumbers, go_sem, reduceIte, Nat.reduceEqDiff, Nat.reduceAdd, Nat.reduceMul, Nat.reduceSub, reduceCtorEq, Nat.reduceLeDiff, Nat.reduceLT, Int.reduceLT, Int.reduceLE, Int.reduceToNat, Int.reduceAdd, Int.reduceSub, Int.reduceNeg, Int.reduceMul, Int.reduceEq, ← Bool.decide_and, ← Bool.decide_or, ↓tq_n, ↓tq_e, ↓tq_r, ↓bq_n, ↓bq_e, ↓bq_r, ↓rq_n, ↓rq_r, ↓rq_e]
  refine CallG.mk (r_law_few nl _ _ _ _) ?_
  simp only [F_law_ColoringNumbers, g_law_ColoringNumbers, go_sem, reduceIte, Nat.reduceEqDiff, Nat.reduceAdd, Nat.reduceMul, Nat.reduceSub, reduceCtorEq, Nat.reduceLeDiff, Nat.reduceLT, Int.reduceLT, Int.reduceLE, Int.reduceToNat, Int.reduceAdd, Int.reduceSub, Int.reduceNeg, Int.reduceMul, Int.reduceEq, ← Bool.decide_and, ← Bool.decide_or, ↓tq_n, ↓tq_e, ↓tq_r, ↓bq_n, ↓bq_e, ↓bq_r, ↓rq_n, ↓rq_r, ↓rq_e]
  refine ⟨fun h1 => CallG.mk (r_law_awake _) ?_, fun h1 => CallG.mk (r_coloring_Number nl n e tl _) ?_⟩
  · simp only [F_law_ColoringNumbers, g_law_ColoringNumbers, go_sem, reduceIte, Nat.reduceEqDiff, Nat.reduceAdd, Nat.reduceMul, Nat.reduceSub, reduceCtorEq, Nat.reduceLeDiff, Nat.reduceLT, Int.reduceLT, Int.reduceLE, Int.reduceToNat, Int.reduceAdd, Int.reduceSub, Int.reduceNeg, Int.reduceMul, Int.reduceEq, ← Bool.decide_and, ← Bool.decide_or, ↓tq_n, ↓tq_e, ↓tq_r, ↓bq_n, ↓bq_e, ↓bq_r, ↓rq_n, ↓rq_r, ↓rq_e]
    refine ret_hb (by repeat' first | exact AH.le.refl _ | assumption | (refine AH.le_put ?_ (by first | assumption | exact (AH.blk_put_ne _ _ (by assumption)).trans (by assumption) | exact AH.none_put (by assumption) | exact AH.none_put (AH.none_put (by assumption)) | (simp only [AH.blk_setTok, AH.tok_put] at *; first | assumption | exact AH.none_put (by assumption)))) | (refine AH.le_setTok ?_ (by first | assumption | exact (AH.blk_put_ne _ _ (by assumption)).trans (by assumption) | exact AH.none_put (by assumption) | exact AH.none_put (AH.none_put (by assumption)) | (simp only [AH.blk_setTok, AH.tok_put] at *; first | assumption | exact AH.none_put (by assumption)))) | (refine AH.le_putM ?_ (by first | assumption | exact (AH.mp_putM_ne _ _ (by assumption)).trans (by assumption) | (simp only [AH.mp_put, AH.mp_setTok] at *; assumption)))) ?_
    rfl
  simp only [F_law_ColoringNumbers, g_law_ColoringNumbers, go_sem, reduceIte, Nat.reduceEqDiff, Nat.reduceAdd, Nat.reduceMul, Nat.reduceSub, reduceCtorEq, Nat.reduceLeDiff, Nat.reduceLT, Int.reduceLT, Int.reduceLE, Int.reduceToNat, Int.reduceAdd, Int.reduceSub, Int.reduceNeg, Int.reduceMul, Int.reduceEq, ← Bool.decide_and, ← Bool.decide_or, ↓tq_n, ↓tq_e, ↓tq_r, ↓bq_n, ↓bq_e, ↓bq_r, ↓rq_n, ↓rq_r, ↓rq_e]
  refine CallG.mk (r_ref_Number nl n e tl _) ?_
  simp only [F_law_ColoringNumbers, g_law_ColoringNumbers, go_sem, reduceIte, Nat.reduceEqDiff, Nat.reduceAdd, Nat.reduceMul, Nat.reduceSub, reduceCtorEq, Nat.reduceLeDiff, Nat.reduceLT, Int.reduceLT, Int.reduceLE, Int.reduceToNat, Int.reduceAdd, Int.reduceSub, Int.reduceNeg, Int.reduceMul, Int.reduceEq, ← Bool.decide_and, ← Bool.decide_or, ↓tq_n, ↓tq_e, ↓tq_r, ↓bq_n, ↓bq_e, ↓bq_r, ↓rq_n, ↓rq_r, ↓rq_e]
  refine CallG.mk (r_coloring_Color nl n e tl _) ?_
  simp only [F_law_ColoringNumbers, g_law_ColoringNumbers, go_sem, reduceIte, Nat.reduceEqDiff, Nat.reduceAdd, Nat.reduceMul, Nat.reduceSub, reduceCtorEq, Nat.reduceLeDiff, Nat.reduceLT, Int.reduceLT, Int.reduceLE, Int.reduceToNat, Int.reduceAdd, Int.reduceSub, Int.reduceNeg, Int.reduceMul, Int.reduceEq, ← Bool.decide_and, ← Bool.decide_or, ↓tq_n, ↓tq_e, ↓tq_r, ↓bq_n, ↓bq_e, ↓bq_r, ↓rq_n, ↓rq_r, ↓rq_e]
  refine CallG.mk (r_ref_Color nl n e tl _) ?_
  simp only [F_law_ColoringNumbers, g_law_ColoringNumbers, go_sem, reduceIte, Nat.reduceEqDiff, Nat.reduceAdd, Nat.reduceMul, Nat.reduceSub, reduceCtorEq, Nat.reduceLeDiff, Nat.reduceLT, Int.reduceLT, Int.reduceLE, Int.reduceToNat, Int.reduceAdd, Int.reduceSub, Int.reduceNeg, Int.reduceMul, Int.reduceEq, ← Bool.decide_and, ← Bool.decide_or, ↓tq_n, ↓tq_e, ↓tq_r, ↓bq_n, ↓bq_e, ↓bq_r, ↓rq_n, ↓rq_r, ↓rq_e]
  refine CallG.mk (r_coloring_Valid nl n e tl _) ?_
  simp only [F_law_ColoringNumbers, g_law_ColoringNumbers, go_sem, reduceIte, Nat.reduceEqDiff, Nat.reduceAdd, Nat.reduceMul, Nat.reduceSub, reduceCtorEq, Nat.reduceLeDiff, Nat.reduceLT, Int.reduceLT, Int.reduceLE, Int.reduceToNat, Int.reduceAdd, Int.reduceSub, Int.reduceNeg, Int.reduceMul, Int.reduceEq, ← Bool.decide_and, ← Bool.decide_or, ↓tq_n, ↓tq_e, ↓tq_r, ↓bq_n, ↓bq_e, ↓bq_r, ↓rq_n, ↓rq_r, ↓rq_e]
  refine CallG.mk (r_ref_Valid nl n e tl _) ?_
  simp only [F_law_ColoringNumbers, g_law_ColoringNumbers, go_sem, reduceIte, Nat.reduceEqDiff, Nat.reduceAdd, Nat.reduceMul, Nat.reduceSub, reduceCtorEq, Nat.reduceLeDiff, Nat.reduceLT, Int.reduceLT, Int.reduceLE, Int.reduceToNat, Int.reduceAdd, Int.reduceSub, Int.reduceNeg, Int.reduceMul, Int.reduceEq, ← Bool.decide_and, ← Bool.decide_or, ↓tq_n, ↓tq_e, ↓tq_r, ↓bq_n, ↓bq_e, ↓bq_r, ↓rq_n, ↓rq_r, ↓rq_e]
  have hI : RCall Try.prog n_base_Ints [if Vd n e then .sl false (col n e).length (i64s (col n e)) .unk else .sl true 0 [] .full, if Vd n e then .sl (decide (n.toNat = 0)) (col n e).length (i64s (col n e)) .unk else .sl true 0 [] .full] h' (.bool true) := by
    split
    · have := r_base_Ints false (decide (n.toNat = 0)) (col n e) (col n e) .unk .unk h'
      simpa using this
    · have := r_base_Ints true true [] [] .full .full h'
      simpa [i64s] using this
  refine CallG.mk hI ?_
  simp only [F_law_ColoringNumbers, g_law_ColoringNumbers, go_sem, reduceIte, Nat.reduceEqDiff, Nat.reduceAdd, Nat.reduceMul, Nat.reduceSub, reduceCtorEq, Nat.reduceLeDiff, Nat.reduceLT, Int.reduceLT, Int.reduceLE, Int.reduceToNat, Int.reduceAdd, Int.reduceSub, Int.reduceNeg, Int.reduceMul, Int.reduceEq, ← Bool.decide_and, ← Bool.decide_or, ↓tq_n, ↓tq_e, ↓tq_r, ↓bq_n, ↓bq_e, ↓bq_r, ↓rq_n, ↓rq_r, ↓rq_e]
  refine ret_hb (by repeat' first | exact AH.le.refl _ | assumption | (refine AH.le_put ?_ (by first | assumption | exact (AH.blk_put_ne _ _ (by assumption)).trans (by assumption) | exact AH.none_put (by assumption) | exact AH.none_put (AH.none_put (by assumption)) | (simp only [AH.blk_setTok, AH.tok_put] at *; first | assumption | exact AH.none_put (by assumption)))) | (refine AH.le_setTok ?_ (by first | assumption | exact (AH.blk_put_ne _ _ (by assumption)).trans (by assumption) | exact AH.none_put (by assumption) | exact AH.none_put (AH.none_put (by assumption)) | (simp only [AH.blk_setTok, AH.tok_put] at *; first | assumption | exact AH.none_put (by assumption)))) | (refine AH.le_putM ?_ (by first | assumption | exact (AH.mp_putM_ne _ _ (by assumption)).trans (by assumption) | (simp only [AH.mp_put, AH.mp_setTok] at *; assumption)))) ?_
  rfl
end Go.Proofs.Yticiimmfjdkimaa
