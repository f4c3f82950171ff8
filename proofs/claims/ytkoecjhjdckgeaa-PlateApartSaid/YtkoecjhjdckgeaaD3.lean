/- Calls of functions of this seat's program: plates, the items on a plate, the lower bound. No condition. -/
import Derived.Test.YtkoecjhjdckgeaaD2
namespace Go.Proofs.Ytkoecjhjdckgeaa
open Go Go.Abs
set_option linter.unusedSimpArgs false
set_option linter.unusedVariables false
set_option maxRecDepth 20000

def plOK (s : List Sp) : Prop := ∀ i, i < s.length → 0 ≤ (s.getD i dS).2.1 ∧ (s.getD i dS).2.1 ≤ 1000
theorem plN_b {s : List Sp} (hs : plOK s) : ∀ i, i ≤ s.length → 0 ≤ plN s i ∧ plN s i ≤ 1001 := by
  intro i
  induction i with
  | zero => intro _; simp [plN]
  | succ i ih =>
    intro h
    have h1 := ih (by omega)
    have h2 := hs i (by omega)
    unfold plN
    omega
theorem r_ref_Plates (nl : Bool) (s : List Sp) (tl : Tail) (h : AH) (hs : plOK s) : RCall Try.prog n_ref_Plates [.sl nl s.length (sps s) tl] h (I (plN s s.length)) := by
  refine RCall.of hm cF_ref_Plates (by simp [g_ref_Plates]) fun hw h' hl => ?_
  have hx := wf_len (hw _ (.head _))
  simp only [F_ref_Plates, g_ref_Plates, go_sem, reduceIte, Nat.reduceEqDiff, Nat.reduceAdd, Nat.reduceMul, Nat.reduceSub, reduceCtorEq, Nat.reduceLeDiff, Nat.reduceLT, Int.reduceLT, Int.reduceLE, Int.reduceToNat, Int.reduceAdd, Int.reduceSub, Int.reduceNeg, Int.reduceMul, Int.reduceEq, ← Bool.decide_and, ← Bool.decide_or, ↓tq_n, ↓tq_e, ↓tq_r, ↓bq_n, ↓bq_e, ↓bq_r, ↓rq_n, ↓rq_r, ↓rq_e]
  refine awp_loop (fun i : Nat => [(0, .sl nl s.length (sps s) tl), (3, I (plN s i)), (4, I i)]) (fun _ => h') (fun i => i ≤ s.length) (fun i => s.length - i) 0 (Nat.zero_le _) (GStep.forget (by repeat' first | exact EnvLe.nil _ | refine EnvLe.cons (AV.le.of_eq rfl) ?_ | refine EnvLe.cons (AV.le.undef _) ?_ | refine EnvLe.cons AV.le.unk ?_) (by repeat' first | exact AH.le.refl _ | assumption | (refine AH.le_put ?_ (by first | assumption | exact (AH.blk_put_ne _ _ (by assumption)).trans (by assumption) | exact AH.none_put (by assumption) | exact AH.none_put (AH.none_put (by assumption)) | (simp only [AH.blk_setTok, AH.tok_put] at *; first | assumption | exact AH.none_put (by assumption)))) | (refine AH.le_setTok ?_ (by first | assumption | exact (AH.blk_put_ne _ _ (by assumption)).trans (by assumption) | exact AH.none_put (by assumption) | exact AH.none_put (AH.none_put (by assumption)) | (simp only [AH.blk_setTok, AH.tok_put] at *; first | assumption | exact AH.none_put (by assumption)))) | (refine AH.le_putM ?_ (by first | assumption | exact (AH.mp_putM_ne _ _ (by assumption)).trans (by assumption) | (simp only [AH.mp_put, AH.mp_setTok] at *; assumption))))) fun i hi => .of_vg hm ?_
  by_cases h3 : i < s.length
  · have hc3 : (i : Int) < (s.length : Int) := by omega
    have h4 := hs i h3
    simp only [hc3, sps_drop h3, F_ref_Plates, g_ref_Plates, go_sem, reduceIte, Nat.reduceEqDiff, Nat.reduceAdd, Nat.reduceMul, Nat.reduceSub, reduceCtorEq, Nat.reduceLeDiff, Nat.reduceLT, Int.reduceLT, Int.reduceLE, Int.reduceToNat, Int.reduceAdd, Int.reduceSub, Int.reduceNeg, Int.reduceMul, Int.reduceEq, ← Bool.decide_and, ← Bool.decide_or, ↓tq_n, ↓tq_e, ↓tq_r, ↓bq_n, ↓bq_e, ↓bq_r, ↓rq_n, ↓rq_r, ↓rq_e]
    exact ⟨by rw [inR64]; omega, by rw [inR64]; omega, i + 1, by omega, by omega, (GStep.forget (by repeat' first | exact EnvLe.nil _ | refine EnvLe.cons (AV.le.of_eq rfl) ?_ | refine EnvLe.cons (AV.le.undef _) ?_ | refine EnvLe.cons AV.le.unk ?_) (by repeat' first | exact AH.le.refl _ | assumption | (refine AH.le_put ?_ (by first | assumption | exact (AH.blk_put_ne _ _ (by assumption)).trans (by assumption) | exact AH.none_put (by assumption) | exact AH.none_put (AH.none_put (by assumption)) | (simp only [AH.blk_setTok, AH.tok_put] at *; first | assumption | exact AH.none_put (by assumption)))) | (refine AH.le_setTok ?_ (by first | assumption | exact (AH.blk_put_ne _ _ (by assumption)).trans (by assumption) | exact AH.none_put (by assumption) | exact AH.none_put (AH.none_put (by assumption)) | (simp only [AH.blk_setTok, AH.tok_put] at *; first | assumption | exact AH.none_put (by assumption)))) | (refine AH.le_putM ?_ (by first | assumption | exact (AH.mp_putM_ne _ _ (by assumption)).trans (by assumption) | (simp only [AH.mp_put, AH.mp_setTok] at *; assumption)))))⟩
  · have h3 : i = s.length := by omega
    subst h3
    simp only [F_ref_Plates, g_ref_Plates, go_sem, reduceIte, Nat.reduceEqDiff, Nat.reduceAdd, Nat.reduceMul, Nat.reduceSub, reduceCtorEq, Nat.reduceLeDiff, Nat.reduceLT, Int.reduceLT, Int.reduceLE, Int.reduceToNat, Int.reduceAdd, Int.reduceSub, Int.reduceNeg, Int.reduceMul, Int.reduceEq, ← Bool.decide_and, ← Bool.decide_or, ↓tq_n, ↓tq_e, ↓tq_r, ↓bq_n, ↓bq_e, ↓bq_r, ↓rq_n, ↓rq_r, ↓rq_e]
    exact ret_ok rfl
theorem r_plate_Plates (nl : Bool) (s : List Sp) (tl : Tail) (h : AH) (hs : plOK s) : RCall Try.prog n_plate_Plates [.sl nl s.length (sps s) tl] h (I (plN s s.length)) := by
  refine RCall.of hm cF_plate_Plates (by simp [g_plate_Plates]) fun hw h' hl => ?_
  have hx := wf_len (hw _ (.head _))
  by_cases h0 : s.length = 0
  · have hc : ((s.length : Nat) : Int) = 0 := by omega
    simp only [hc, F_plate_Plates, g_plate_Plates, go_sem, reduceIte, Nat.reduceEqDiff, Nat.reduceAdd, Nat.reduceMul, Nat.reduceSub, reduceCtorEq, Nat.reduceLeDiff, Nat.reduceLT, Int.reduceLT, Int.reduceLE, Int.reduceToNat, Int.reduceAdd, Int.reduceSub, Int.reduceNeg, Int.reduceMul, Int.reduceEq, ← Bool.decide_and, ← Bool.decide_or, ↓tq_n, ↓tq_e, ↓tq_r, ↓bq_n, ↓bq_e, ↓bq_r, ↓rq_n, ↓rq_r, ↓rq_e]
    exact ret_ok (by rw [h0]; rfl)
  have hc : ¬ ((s.length : Nat) : Int) = 0 := by omega
  have h00 : 0 < s.length := by omega
  have hc0 : (0 : Int) < (s.length : Int) := by omega
  have hd := sps_drop h00
  rw [Nat.zero_mul] at hd
  have hs0 := hs 0 h00
  simp only [hc, hc0, hd, F_plate_Plates, g_plate_Plates, go_sem, reduceIte, Nat.reduceEqDiff, Nat.reduceAdd, Nat.reduceMul, Nat.reduceSub, reduceCtorEq, Nat.reduceLeDiff, Nat.reduceLT, Int.reduceLT, Int.reduceLE, Int.reduceToNat, Int.reduceAdd, Int.reduceSub, Int.reduceNeg, Int.reduceMul, Int.reduceEq, ← Bool.decide_and, ← Bool.decide_or, ↓tq_n, ↓tq_e, ↓tq_r, ↓bq_n, ↓bq_e, ↓bq_r, ↓rq_n, ↓rq_r, ↓rq_e]
  refine awp_loop (fun i : Nat => [(3, I (max (s.getD 0 dS).2.1 (plN s i - 1))), (13, .sl nl s.length (sps s) tl), (14, I s.length), (15, I i)]) (fun _ => h') (fun i => i ≤ s.length) (fun i => s.length - i) 0 (Nat.zero_le _) ?_ fun i hi => .of_vg hm ?_
  · have e : max (s.getD 0 dS).2.1 (plN s 0 - 1) = (s.getD 0 dS).2.1 := by simp only [plN]; omega
    rw [e]
    exact (GStep.forget (by repeat' first | exact EnvLe.nil _ | refine EnvLe.cons (AV.le.of_eq rfl) ?_ | refine EnvLe.cons (AV.le.undef _) ?_ | refine EnvLe.cons AV.le.unk ?_) (by repeat' first | exact AH.le.refl _ | assumption | (refine AH.le_put ?_ (by first | assumption | exact (AH.blk_put_ne _ _ (by assumption)).trans (by assumption) | exact AH.none_put (by assumption) | exact AH.none_put (AH.none_put (by assumption)) | (simp only [AH.blk_setTok, AH.tok_put] at *; first | assumption | exact AH.none_put (by assumption)))) | (refine AH.le_setTok ?_ (by first | assumption | exact (AH.blk_put_ne _ _ (by assumption)).trans (by assumption) | exact AH.none_put (by assumption) | exact AH.none_put (AH.none_put (by assumption)) | (simp only [AH.blk_setTok, AH.tok_put] at *; first | assumption | exact AH.none_put (by assumption)))) | (refine AH.le_putM ?_ (by first | assumption | exact (AH.mp_putM_ne _ _ (by assumption)).trans (by assumption) | (simp only [AH.mp_put, AH.mp_setTok] at *; assumption)))))
  by_cases h3 : i < s.length
  · have hc3 : (i : Int) < (s.length : Int) := by omega
    have h4 := hs i h3
    simp only [hc3, sps_drop h3, F_plate_Plates, g_plate_Plates, go_sem, reduceIte, Nat.reduceEqDiff, Nat.reduceAdd, Nat.reduceMul, Nat.reduceSub, reduceCtorEq, Nat.reduceLeDiff, Nat.reduceLT, Int.reduceLT, Int.reduceLE, Int.reduceToNat, Int.reduceAdd, Int.reduceSub, Int.reduceNeg, Int.reduceMul, Int.reduceEq, ← Bool.decide_and, ← Bool.decide_or, ↓tq_n, ↓tq_e, ↓tq_r, ↓bq_n, ↓bq_e, ↓bq_r, ↓rq_n, ↓rq_r, ↓rq_e]
    refine ⟨by rw [inR64]; omega, i + 1, by omega, by omega, ?_⟩
    have e : max (s.getD 0 dS).2.1 (plN s (i + 1) - 1) = max (max (s.getD 0 dS).2.1 (plN s i - 1)) (s.getD i dS).2.1 := by simp only [plN]; omega
    rw [e]
    exact (GStep.forget (by repeat' first | exact EnvLe.nil _ | refine EnvLe.cons (AV.le.of_eq rfl) ?_ | refine EnvLe.cons (AV.le.undef _) ?_ | refine EnvLe.cons AV.le.unk ?_) (by repeat' first | exact AH.le.refl _ | assumption | (refine AH.le_put ?_ (by first | assumption | exact (AH.blk_put_ne _ _ (by assumption)).trans (by assumption) | exact AH.none_put (by assumption) | exact AH.none_put (AH.none_put (by assumption)) | (simp only [AH.blk_setTok, AH.tok_put] at *; first | assumption | exact AH.none_put (by assumption)))) | (refine AH.le_setTok ?_ (by first | assumption | exact (AH.blk_put_ne _ _ (by assumption)).trans (by assumption) | exact AH.none_put (by assumption) | exact AH.none_put (AH.none_put (by assumption)) | (simp only [AH.blk_setTok, AH.tok_put] at *; first | assumption | exact AH.none_put (by assumption)))) | (refine AH.le_putM ?_ (by first | assumption | exact (AH.mp_putM_ne _ _ (by assumption)).trans (by assumption) | (simp only [AH.mp_put, AH.mp_setTok] at *; assumption)))))
  · have h3 : i = s.length := by omega
    subst h3
    have hb := plN_b hs _ (Nat.le_refl _)
    have h1 : (s.getD 0 dS).2.1 + 1 ≤ plN s s.length := by
      have key : ∀ i, 0 < i → (s.getD 0 dS).2.1 + 1 ≤ plN s i := by
        intro i
        induction i with
        | zero => intro h; omega
        | succ i ih =>
          intro _
          unfold plN
          rcases Nat.eq_zero_or_pos i with rfl | hi
          · omega
          · have := ih hi; omega
      exact key _ h00
    simp only [F_plate_Plates, g_plate_Plates, go_sem, reduceIte, Nat.reduceEqDiff, Nat.reduceAdd, Nat.reduceMul, Nat.reduceSub, reduceCtorEq, Nat.reduceLeDiff, Nat.reduceLT, Int.reduceLT, Int.reduceLE, Int.reduceToNat, Int.reduceAdd, Int.reduceSub, Int.reduceNeg, Int.reduceMul, Int.reduceEq, ← Bool.decide_and, ← Bool.decide_or, ↓tq_n, ↓tq_e, ↓tq_r, ↓bq_n, ↓bq_e, ↓bq_r, ↓rq_n, ↓rq_r, ↓rq_e]
    exact ⟨by rw [inR64]; omega, ret_ok (by have : max (s.getD 0 dS).2.1 (plN s s.length - 1) + 1 = plN s s.length := by omega
                                            rw [this])⟩

theorem onI_eq (s : List Sp) (k : Int) (i : Nat) : onI s k (i + 1) = if (s.getD i dS).2.1 = k then onI s k i ++ [(s.getD i dS).1] else onI s k i := rfl
theorem r_plate_On (nl : Bool) (s : List Sp) (tl : Tail) (k : Int) (hs : s.length ≤ 1000) (h : AH) : RCall Try.prog n_plate_On [.sl nl s.length (sps s) tl, I k] h (gl (i64s (onI s k s.length)) (onI s k s.length).length .unk) := by
  refine RCall.of hm cF_plate_On (by simp [g_plate_On]) fun hw h' hl => ?_
  simp only [F_plate_On, g_plate_On, go_sem, reduceIte, Nat.reduceEqDiff, Nat.reduceAdd, Nat.reduceMul, Nat.reduceSub, reduceCtorEq, Nat.reduceLeDiff, Nat.reduceLT, Int.reduceLT, Int.reduceLE, Int.reduceToNat, Int.reduceAdd, Int.reduceSub, Int.reduceNeg, Int.reduceMul, Int.reduceEq, ← Bool.decide_and, ← Bool.decide_or, ↓tq_n, ↓tq_e, ↓tq_r, ↓bq_n, ↓bq_e, ↓bq_r, ↓rq_n, ↓rq_r, ↓rq_e]
  refine awp_tok 5 1 (nl := true) (n := 0) (cs := []) rfl fun t ht => ?_
  refine awp_loop (fun i : Nat => [(1, I k), (5, gl (i64s (onI s k i)) (onI s k i).length (.tok t)), (8, .sl nl s.length (sps s) tl), (9, I s.length), (10, I i)]) (fun i => h'.setTok t (onI s k i).length 1) (fun i => i ≤ s.length) (fun i => s.length - i) 0 (Nat.zero_le _) (GStep.forget (by repeat' first | exact EnvLe.nil _ | refine EnvLe.cons (AV.le.of_eq rfl) ?_ | refine EnvLe.cons (AV.le.undef _) ?_ | refine EnvLe.cons AV.le.unk ?_) (by repeat' first | exact AH.le.refl _ | assumption | (refine AH.le_put ?_ (by first | assumption | exact (AH.blk_put_ne _ _ (by assumption)).trans (by assumption) | exact AH.none_put (by assumption) | exact AH.none_put (AH.none_put (by assumption)) | (simp only [AH.blk_setTok, AH.tok_put] at *; first | assumption | exact AH.none_put (by assumption)))) | (refine AH.le_setTok ?_ (by first | assumption | exact (AH.blk_put_ne _ _ (by assumption)).trans (by assumption) | exact AH.none_put (by assumption) | exact AH.none_put (AH.none_put (by assumption)) | (simp only [AH.blk_setTok, AH.tok_put] at *; first | assumption | exact AH.none_put (by assumption)))) | (refine AH.le_putM ?_ (by first | assumption | exact (AH.mp_putM_ne _ _ (by assumption)).trans (by assumption) | (simp only [AH.mp_put, AH.mp_setTok] at *; assumption))))) fun i hi => .of_vg hm ?_
  by_cases h3 : i < s.length
  · have hc3 : (i : Int) < (s.length : Int) := by omega
    have hil := onI_len s k i
    have e1 := onI_eq s k i
    by_cases h4 : (s.getD i dS).2.1 = k
    · rw [if_pos h4] at e1
      simp only [hc3, sps_drop h3, h4, F_plate_On, g_plate_On, go_sem, reduceIte, Nat.reduceEqDiff, Nat.reduceAdd, Nat.reduceMul, Nat.reduceSub, reduceCtorEq, Nat.reduceLeDiff, Nat.reduceLT, Int.reduceLT, Int.reduceLE, Int.reduceToNat, Int.reduceAdd, Int.reduceSub, Int.reduceNeg, Int.reduceMul, Int.reduceEq, ← Bool.decide_and, ← Bool.decide_or, ↓tq_n, ↓tq_e, ↓tq_r, ↓bq_n, ↓bq_e, ↓bq_r, ↓rq_n, ↓rq_r, ↓rq_e]
      refine ⟨i64s_len _, by omega, by omega, by rw [inR64]; omega, i + 1, by omega, by omega, ?_⟩
      rw [e1, i64s_append, List.length_append]
      exact (GStep.forget (by repeat' first | exact EnvLe.nil _ | refine EnvLe.cons (AV.le.of_eq rfl) ?_ | refine EnvLe.cons (AV.le.undef _) ?_ | refine EnvLe.cons AV.le.unk ?_) (by repeat' first | exact AH.le.refl _ | assumption | (refine AH.le_put ?_ (by first | assumption | exact (AH.blk_put_ne _ _ (by assumption)).trans (by assumption) | exact AH.none_put (by assumption) | exact AH.none_put (AH.none_put (by assumption)) | (simp only [AH.blk_setTok, AH.tok_put] at *; first | assumption | exact AH.none_put (by assumption)))) | (refine AH.le_setTok ?_ (by first | assumption | exact (AH.blk_put_ne _ _ (by assumption)).trans (by assumption) | exact AH.none_put (by assumption) | exact AH.none_put (AH.none_put (by assumption)) | (simp only [AH.blk_setTok, AH.tok_put] at *; first | assumption | exact AH.none_put (by assumption)))) | (refine AH.le_putM ?_ (by first | assumption | exact (AH.mp_putM_ne _ _ (by assumption)).trans (by assumption) | (simp only [AH.mp_put, AH.mp_setTok] at *; assumption)))))
    · rw [if_neg h4] at e1
      simp only [hc3, sps_drop h3, h4, F_plate_On, g_plate_On, go_sem, reduceIte, Nat.reduceEqDiff, Nat.reduceAdd, Nat.reduceMul, Nat.reduceSub, reduceCtorEq, Nat.reduceLeDiff, Nat.reduceLT, Int.reduceLT, Int.reduceLE, Int.reduceToNat, Int.reduceAdd, Int.reduceSub, Int.reduceNeg, Int.reduceMul, Int.reduceEq, ← Bool.decide_and, ← Bool.decide_or, ↓tq_n, ↓tq_e, ↓tq_r, ↓bq_n, ↓bq_e, ↓bq_r, ↓rq_n, ↓rq_r, ↓rq_e]
      refine ⟨by rw [inR64]; omega, i + 1, by omega, by omega, ?_⟩
      rw [e1]
      exact (GStep.forget (by repeat' first | exact EnvLe.nil _ | refine EnvLe.cons (AV.le.of_eq rfl) ?_ | refine EnvLe.cons (AV.le.undef _) ?_ | refine EnvLe.cons AV.le.unk ?_) (by repeat' first | exact AH.le.refl _ | assumption | (refine AH.le_put ?_ (by first | assumption | exact (AH.blk_put_ne _ _ (by assumption)).trans (by assumption) | exact AH.none_put (by assumption) | exact AH.none_put (AH.none_put (by assumption)) | (simp only [AH.blk_setTok, AH.tok_put] at *; first | assumption | exact AH.none_put (by assumption)))) | (refine AH.le_setTok ?_ (by first | assumption | exact (AH.blk_put_ne _ _ (by assumption)).trans (by assumption) | exact AH.none_put (by assumption) | exact AH.none_put (AH.none_put (by assumption)) | (simp only [AH.blk_setTok, AH.tok_put] at *; first | assumption | exact AH.none_put (by assumption)))) | (refine AH.le_putM ?_ (by first | assumption | exact (AH.mp_putM_ne _ _ (by assumption)).trans (by assumption) | (simp only [AH.mp_put, AH.mp_setTok] at *; assumption)))))
  · have h3 : i = s.length := by omega
    subst h3
    simp only [F_plate_On, g_plate_On, go_sem, reduceIte, Nat.reduceEqDiff, Nat.reduceAdd, Nat.reduceMul, Nat.reduceSub, reduceCtorEq, Nat.reduceLeDiff, Nat.reduceLT, Int.reduceLT, Int.reduceLE, Int.reduceToNat, Int.reduceAdd, Int.reduceSub, Int.reduceNeg, Int.reduceMul, Int.reduceEq, ← Bool.decide_and, ← Bool.decide_or, ↓tq_n, ↓tq_e, ↓tq_r, ↓bq_n, ↓bq_e, ↓bq_r, ↓rq_n, ↓rq_r, ↓rq_e]
    exact ret_gl (by repeat' first | exact AH.le.refl _ | assumption | (refine AH.le_put ?_ (by first | assumption | exact (AH.blk_put_ne _ _ (by assumption)).trans (by assumption) | exact AH.none_put (by assumption) | exact AH.none_put (AH.none_put (by assumption)) | (simp only [AH.blk_setTok, AH.tok_put] at *; first | assumption | exact AH.none_put (by assumption)))) | (refine AH.le_setTok ?_ (by first | assumption | exact (AH.blk_put_ne _ _ (by assumption)).trans (by assumption) | exact AH.none_put (by assumption) | exact AH.none_put (AH.none_put (by assumption)) | (simp only [AH.blk_setTok, AH.tok_put] at *; first | assumption | exact AH.none_put (by assumption)))) | (refine AH.le_putM ?_ (by first | assumption | exact (AH.mp_putM_ne _ _ (by assumption)).trans (by assumption) | (simp only [AH.mp_put, AH.mp_setTok] at *; assumption))))
theorem r_ref_On (nl : Bool) (s : List Sp) (tl : Tail) (k : Int) (hs : s.length ≤ 1000) (h : AH) : RCall Try.prog n_ref_On [.sl nl s.length (sps s) tl, I k] h (gl (i64s (onI s k s.length)) (onI s k s.length).length .unk) := by
  refine RCall.of hm cF_ref_On (by simp [g_ref_On]) fun hw h' hl => ?_
  simp only [F_ref_On, g_ref_On, go_sem, reduceIte, Nat.reduceEqDiff, Nat.reduceAdd, Nat.reduceMul, Nat.reduceSub, reduceCtorEq, Nat.reduceLeDiff, Nat.reduceLT, Int.reduceLT, Int.reduceLE, Int.reduceToNat, Int.reduceAdd, Int.reduceSub, Int.reduceNeg, Int.reduceMul, Int.reduceEq, ← Bool.decide_and, ← Bool.decide_or, ↓tq_n, ↓tq_e, ↓tq_r, ↓bq_n, ↓bq_e, ↓bq_r, ↓rq_n, ↓rq_r, ↓rq_e]
  refine awp_tok 5 1 (nl := true) (n := 0) (cs := []) rfl fun t ht => ?_
  refine awp_loop (fun i : Nat => [(0, .sl nl s.length (sps s) tl), (1, I k), (5, gl (i64s (onI s k i)) (onI s k i).length (.tok t)), (6, I i)]) (fun i => h'.setTok t (onI s k i).length 1) (fun i => i ≤ s.length) (fun i => s.length - i) 0 (Nat.zero_le _) (GStep.forget (by repeat' first | exact EnvLe.nil _ | refine EnvLe.cons (AV.le.of_eq rfl) ?_ | refine EnvLe.cons (AV.le.undef _) ?_ | refine EnvLe.cons AV.le.unk ?_) (by repeat' first | exact AH.le.refl _ | assumption | (refine AH.le_put ?_ (by first | assumption | exact (AH.blk_put_ne _ _ (by assumption)).trans (by assumption) | exact AH.none_put (by assumption) | exact AH.none_put (AH.none_put (by assumption)) | (simp only [AH.blk_setTok, AH.tok_put] at *; first | assumption | exact AH.none_put (by assumption)))) | (refine AH.le_setTok ?_ (by first | assumption | exact (AH.blk_put_ne _ _ (by assumption)).trans (by assumption) | exact AH.none_put (by assumption) | exact AH.none_put (AH.none_put (by assumption)) | (simp only [AH.blk_setTok, AH.tok_put] at *; first | assumption | exact AH.none_put (by assumption)))) | (refine AH.le_putM ?_ (by first | assumption | exact (AH.mp_putM_ne _ _ (by assumption)).trans (by assumption) | (simp only [AH.mp_put, AH.mp_setTok] at *; assumption))))) fun i hi => .of_vg hm ?_
  by_cases h3 : i < s.length
  · have hc3 : (i : Int) < (s.length : Int) := by omega
    have hil := onI_len s k i
    have e1 := onI_eq s k i
    by_cases h4 : (s.getD i dS).2.1 = k
    · rw [if_pos h4] at e1
      simp only [hc3, sps_drop h3, h4, F_ref_On, g_ref_On, go_sem, reduceIte, Nat.reduceEqDiff, Nat.reduceAdd, Nat.reduceMul, Nat.reduceSub, reduceCtorEq, Nat.reduceLeDiff, Nat.reduceLT, Int.reduceLT, Int.reduceLE, Int.reduceToNat, Int.reduceAdd, Int.reduceSub, Int.reduceNeg, Int.reduceMul, Int.reduceEq, ← Bool.decide_and, ← Bool.decide_or, ↓tq_n, ↓tq_e, ↓tq_r, ↓bq_n, ↓bq_e, ↓bq_r, ↓rq_n, ↓rq_r, ↓rq_e]
      refine ⟨i64s_len _, by omega, by omega, by rw [inR64]; omega, i + 1, by omega, by omega, ?_⟩
      rw [e1, i64s_append, List.length_append]
      exact (GStep.forget (by repeat' first | exact EnvLe.nil _ | refine EnvLe.cons (AV.le.of_eq rfl) ?_ | refine EnvLe.cons (AV.le.undef _) ?_ | refine EnvLe.cons AV.le.unk ?_) (by repeat' first | exact AH.le.refl _ | assumption | (refine AH.le_put ?_ (by first | assumption | exact (AH.blk_put_ne _ _ (by assumption)).trans (by assumption) | exact AH.none_put (by assumption) | exact AH.none_put (AH.none_put (by assumption)) | (simp only [AH.blk_setTok, AH.tok_put] at *; first | assumption | exact AH.none_put (by assumption)))) | (refine AH.le_setTok ?_ (by first | assumption | exact (AH.blk_put_ne _ _ (by assumption)).trans (by assumption) | exact AH.none_put (by assumption) | exact AH.none_put (AH.none_put (by assumption)) | (simp only [AH.blk_setTok, AH.tok_put] at *; first | assumption | exact AH.none_put (by assumption)))) | (refine AH.le_putM ?_ (by first | assumption | exact (AH.mp_putM_ne _ _ (by assumption)).trans (by assumption) | (simp only [AH.mp_put, AH.mp_setTok] at *; assumption)))))
    · rw [if_neg h4] at e1
      simp only [hc3, sps_drop h3, h4, F_ref_On, g_ref_On, go_sem, reduceIte, Nat.reduceEqDiff, Nat.reduceAdd, Nat.reduceMul, Nat.reduceSub, reduceCtorEq, Nat.reduceLeDiff, Nat.reduceLT, Int.reduceLT, Int.reduceLE, Int.reduceToNat, Int.reduceAdd, Int.reduceSub, Int.reduceNeg, Int.reduceMul, Int.reduceEq, ← Bool.decide_and, ← Bool.decide_or, ↓tq_n, ↓tq_e, ↓tq_r, ↓bq_n, ↓bq_e, ↓bq_r, ↓rq_n, ↓rq_r, ↓rq_e]
      refine ⟨by rw [inR64]; omega, i + 1, by omega, by omega, ?_⟩
      rw [e1]
      exact (GStep.forget (by repeat' first | exact EnvLe.nil _ | refine EnvLe.cons (AV.le.of_eq rfl) ?_ | refine EnvLe.cons (AV.le.undef _) ?_ | refine EnvLe.cons AV.le.unk ?_) (by repeat' first | exact AH.le.refl _ | assumption | (refine AH.le_put ?_ (by first | assumption | exact (AH.blk_put_ne _ _ (by assumption)).trans (by assumption) | exact AH.none_put (by assumption) | exact AH.none_put (AH.none_put (by assumption)) | (simp only [AH.blk_setTok, AH.tok_put] at *; first | assumption | exact AH.none_put (by assumption)))) | (refine AH.le_setTok ?_ (by first | assumption | exact (AH.blk_put_ne _ _ (by assumption)).trans (by assumption) | exact AH.none_put (by assumption) | exact AH.none_put (AH.none_put (by assumption)) | (simp only [AH.blk_setTok, AH.tok_put] at *; first | assumption | exact AH.none_put (by assumption)))) | (refine AH.le_putM ?_ (by first | assumption | exact (AH.mp_putM_ne _ _ (by assumption)).trans (by assumption) | (simp only [AH.mp_put, AH.mp_setTok] at *; assumption)))))
  · have h3 : i = s.length := by omega
    subst h3
    simp only [F_ref_On, g_ref_On, go_sem, reduceIte, Nat.reduceEqDiff, Nat.reduceAdd, Nat.reduceMul, Nat.reduceSub, reduceCtorEq, Nat.reduceLeDiff, Nat.reduceLT, Int.reduceLT, Int.reduceLE, Int.reduceToNat, Int.reduceAdd, Int.reduceSub, Int.reduceNeg, Int.reduceMul, Int.reduceEq, ← Bool.decide_and, ← Bool.decide_or, ↓tq_n, ↓tq_e, ↓tq_r, ↓bq_n, ↓bq_e, ↓bq_r, ↓rq_n, ↓rq_r, ↓rq_e]
    exact ret_gl (by repeat' first | exact AH.le.refl _ | assumption | (refine AH.le_put ?_ (by first | assumption | exact (AH.blk_put_ne _ _ (by assumption)).trans (by assumption) | exact AH.none_put (by assumption) | exact AH.none_put (AH.none_put (by assumption)) | (simp only [AH.blk_setTok, AH.tok_put] at *; first | assumption | exact AH.none_put (by assumption)))) | (refine AH.le_setTok ?_ (by first | assumption | exact (AH.blk_put_ne _ _ (by assumption)).trans (by assumption) | exact AH.none_put (by assumption) | exact AH.none_put (AH.none_put (by assumption)) | (simp only [AH.blk_setTok, AH.tok_put] at *; first | assumption | exact AH.none_put (by assumption)))) | (refine AH.le_putM ?_ (by first | assumption | exact (AH.mp_putM_ne _ _ (by assumption)).trans (by assumption) | (simp only [AH.mp_put, AH.mp_setTok] at *; assumption))))

theorem mul_b {a b A B : Int} (h1 : 0 ≤ a ∧ a ≤ A) (h2 : 0 ≤ b ∧ b ≤ B) : 0 ≤ a * b ∧ a * b ≤ A * B :=
  ⟨Int.mul_nonneg h1.1 h2.1, Int.mul_le_mul h1.2 h2.2 h2.1 (Int.le_trans h1.1 h1.2)⟩
theorem arS_b {l : List It} (hl : ∀ i, i < l.length → iOK l i) : ∀ i, i ≤ l.length → 0 ≤ arS l i ∧ arS l i ≤ i * 10000 ∧ (i : Int) ≤ arS l i := by
  intro i
  induction i with
  | zero => intro _; simp [arS]
  | succ i ih =>
    intro h
    have h1 := ih (by omega)
    obtain ⟨_, h2, h3, _⟩ := hl i (by omega)
    have h4 := mul_b (show 0 ≤ _ ∧ _ from ⟨by omega, h2.2⟩) (show 0 ≤ _ ∧ _ from ⟨by omega, h3.2⟩)
    have h5 : 1 ≤ (l.getD i dI).2.1 * (l.getD i dI).2.2 := by
      have := Int.mul_le_mul h2.1 h3.1 (by omega) (by omega)
      omega
    unfold arS
    push_cast
    omega
/-- The area of a page within its margins. -/
def arP (p : It) : Int := (p.1 - 2 * p.2.2) * (p.2.1 - 2 * p.2.2)
theorem arP_b {l : List It} {p : It} (h : lgQ l p = 0) (h0 : 0 < l.length) : 1 ≤ p.1 - 2 * p.2.2 ∧ 1 ≤ p.2.1 - 2 * p.2.2 ∧ 1 ≤ arP p ∧ arP p ≤ 160000 := by
  obtain ⟨h1, h2⟩ := lgQ_ok h
  obtain ⟨h3, g1, g2, g3⟩ := gvQ_ok h1
  obtain ⟨h4, h5⟩ := itQ_ok h3
  have h6 := h5 0 h0
  have h7 := h2 0 h0
  unfold iOK at h6
  unfold big at h7
  have a1 : 1 ≤ p.1 - 2 * p.2.2 := by omega
  have a2 : 1 ≤ p.2.1 - 2 * p.2.2 := by omega
  have a3 := mul_b (a := p.1 - 2 * p.2.2) (b := p.2.1 - 2 * p.2.2) (A := 400) (B := 400) (by omega) (by omega)
  have a4 := Int.mul_le_mul a1 a2 (by omega) (by omega)
  refine ⟨a1, a2, ?_, ?_⟩ <;> unfold arP <;> omega
def lowV (l : List It) (p : It) : AV := if lgQ l p = 0 then .tup [I (lwV l p), I 0] else .tup [I 0, I (lgQ l p)]
theorem lwV_b {l : List It} {p : It} (h : lgQ l p = 0) : 0 ≤ lwV l p ∧ lwV l p ≤ 400000 ∧ ∀ n : Int, 0 ≤ n → n ≤ lwV l p → (n * arP p < arS l l.length ↔ n < lwV l p) := by
  obtain ⟨k1, k2⟩ := lgQ_ok h
  obtain ⟨k3, g1, g2, g3⟩ := gvQ_ok k1
  obtain ⟨k4, k5⟩ := itQ_ok k3
  have hb := arS_b k5 _ (Nat.le_refl _)
  by_cases h6 : arS l l.length = 0
  · have e : lwV l p = 0 := by rw [lwV, if_pos h6]
    rw [e, h6]
    refine ⟨by omega, by omega, fun n n1 n2 => ?_⟩
    have : n = 0 := by omega
    subst this
    simp
  have h00 : 0 < l.length := by
    rcases Nat.eq_zero_or_pos l.length with e | e
    · rw [e] at h6; exact absurd rfl h6
    · exact e
  obtain ⟨a1, a2, a3, a4⟩ := arP_b h h00
  have e : lwV l p = (arS l l.length + arP p - 1) / arP p := by
    rw [lwV, if_neg h6]
    exact Int.tdiv_eq_ediv_of_nonneg (by unfold arP at a3; omega)
  have e2 : arP p * lwV l p ≤ arS l l.length + arP p - 1 := by rw [e]; exact Int.mul_ediv_self_le (by omega)
  have e3 : arS l l.length + arP p - 1 < arP p * lwV l p + arP p := by
    rw [e]
    exact Int.lt_mul_ediv_self_add (by omega)
  have hnn : 0 ≤ lwV l p := by rw [e]; exact Int.ediv_nonneg (by omega) (by omega)
  refine ⟨hnn, ?_, fun n n1 n2 => ⟨fun n3 => ?_, fun n3 => ?_⟩⟩
  · have := Int.mul_le_mul_of_nonneg_right a3 hnn
    rw [Int.one_mul] at this
    rcases Int.lt_or_le (lwV l p) 1 with hh | hh
    · omega
    · have := Int.mul_le_mul_of_nonneg_left (show 0 ≤ lwV l p - 1 by omega) (show 0 ≤ arP p by omega)
      have e4 : arP p * (lwV l p - 1) = arP p * lwV l p - arP p := by rw [Int.mul_sub, Int.mul_one]
      have := Int.mul_le_mul_of_nonneg_right a3 (show 0 ≤ lwV l p - 1 by omega)
      rw [Int.one_mul] at this
      omega
  · rcases Int.lt_or_le n (lwV l p) with hh | hh
    · exact hh
    · have : n = lwV l p := by omega
      subst this
      rw [Int.mul_comm] at n3
      omega
  · have := Int.mul_le_mul_of_nonneg_left (show n + 1 ≤ lwV l p by omega) (show 0 ≤ arP p by omega)
    rw [Int.mul_add, Int.mul_one] at this
    rw [Int.mul_comm]
    omega
theorem r_plate_Lower (nl : Bool) (l : List It) (tl : Tail) (p : It) (h : AH) : RCall Try.prog n_plate_Lower [.sl nl l.length (trs l) tl, i3 p] h (lowV l p) := by
  refine RCall.of hm cF_plate_Lower (by simp [g_plate_Lower]) fun hw h' hl => ?_
  simp only [F_plate_Lower, g_plate_Lower, go_sem, reduceIte, Nat.reduceEqDiff, Nat.reduceAdd, Nat.reduceMul, Nat.reduceSub, reduceCtorEq, Nat.reduceLeDiff, Nat.reduceLT, Int.reduceLT, Int.reduceLE, Int.reduceToNat, Int.reduceAdd, Int.reduceSub, Int.reduceNeg, Int.reduceMul, Int.reduceEq, ← Bool.decide_and, ← Bool.decide_or, ↓tq_n, ↓tq_e, ↓tq_r, ↓bq_n, ↓bq_e, ↓bq_r, ↓rq_n, ↓rq_r, ↓rq_e]
  refine CallG.mk (r_plate_fits nl l tl p _) ?_
  simp only [F_plate_Lower, g_plate_Lower, go_sem, reduceIte, Nat.reduceEqDiff, Nat.reduceAdd, Nat.reduceMul, Nat.reduceSub, reduceCtorEq, Nat.reduceLeDiff, Nat.reduceLT, Int.reduceLT, Int.reduceLE, Int.reduceToNat, Int.reduceAdd, Int.reduceSub, Int.reduceNeg, Int.reduceMul, Int.reduceEq, ← Bool.decide_and, ← Bool.decide_or, ↓tq_n, ↓tq_e, ↓tq_r, ↓bq_n, ↓bq_e, ↓bq_r, ↓rq_n, ↓rq_r, ↓rq_e]
  refine ⟨fun h0 => ?_, fun h0 => ?_⟩
  · exact ret_ok (by simp [lowV, h0])
  obtain ⟨k1, k2⟩ := lgQ_ok h0
  obtain ⟨k3, g1, g2, g3⟩ := gvQ_ok k1
  obtain ⟨k4, k5⟩ := itQ_ok k3
  refine awp_loop (fun i : Nat => [(3, .sptr [I p.1, I p.2.1, I p.2.2]), (7, I (arS l i)), (17, .sl nl l.length (trs l) tl), (18, I l.length), (19, I i)]) (fun _ => h') (fun i => i ≤ l.length) (fun i => l.length - i) 0 (Nat.zero_le _) (GStep.forget (by repeat' first | exact EnvLe.nil _ | refine EnvLe.cons (AV.le.of_eq rfl) ?_ | refine EnvLe.cons (AV.le.undef _) ?_ | refine EnvLe.cons AV.le.unk ?_) (by repeat' first | exact AH.le.refl _ | assumption | (refine AH.le_put ?_ (by first | assumption | exact (AH.blk_put_ne _ _ (by assumption)).trans (by assumption) | exact AH.none_put (by assumption) | exact AH.none_put (AH.none_put (by assumption)) | (simp only [AH.blk_setTok, AH.tok_put] at *; first | assumption | exact AH.none_put (by assumption)))) | (refine AH.le_setTok ?_ (by first | assumption | exact (AH.blk_put_ne _ _ (by assumption)).trans (by assumption) | exact AH.none_put (by assumption) | exact AH.none_put (AH.none_put (by assumption)) | (simp only [AH.blk_setTok, AH.tok_put] at *; first | assumption | exact AH.none_put (by assumption)))) | (refine AH.le_putM ?_ (by first | assumption | exact (AH.mp_putM_ne _ _ (by assumption)).trans (by assumption) | (simp only [AH.mp_put, AH.mp_setTok] at *; assumption))))) fun i hi => .of_vg hm ?_
  have hb := arS_b k5 i hi
  by_cases h3 : i < l.length
  · have hc3 : (i : Int) < (l.length : Int) := by omega
    obtain ⟨_, b2, b3, _⟩ := k5 i h3
    have h4 := mul_b (show 0 ≤ _ ∧ _ from ⟨by omega, b2.2⟩) (show 0 ≤ _ ∧ _ from ⟨by omega, b3.2⟩)
    simp only [hc3, trs_dropI h3, F_plate_Lower, g_plate_Lower, go_sem, reduceIte, Nat.reduceEqDiff, Nat.reduceAdd, Nat.reduceMul, Nat.reduceSub, reduceCtorEq, Nat.reduceLeDiff, Nat.reduceLT, Int.reduceLT, Int.reduceLE, Int.reduceToNat, Int.reduceAdd, Int.reduceSub, Int.reduceNeg, Int.reduceMul, Int.reduceEq, ← Bool.decide_and, ← Bool.decide_or, ↓tq_n, ↓tq_e, ↓tq_r, ↓bq_n, ↓bq_e, ↓bq_r, ↓rq_n, ↓rq_r, ↓rq_e]
    exact ⟨by rw [inR64]; omega, by rw [inR64]; omega, by rw [inR64]; omega, i + 1, by omega, by omega, (GStep.forget (by repeat' first | exact EnvLe.nil _ | refine EnvLe.cons (AV.le.of_eq rfl) ?_ | refine EnvLe.cons (AV.le.undef _) ?_ | refine EnvLe.cons AV.le.unk ?_) (by repeat' first | exact AH.le.refl _ | assumption | (refine AH.le_put ?_ (by first | assumption | exact (AH.blk_put_ne _ _ (by assumption)).trans (by assumption) | exact AH.none_put (by assumption) | exact AH.none_put (AH.none_put (by assumption)) | (simp only [AH.blk_setTok, AH.tok_put] at *; first | assumption | exact AH.none_put (by assumption)))) | (refine AH.le_setTok ?_ (by first | assumption | exact (AH.blk_put_ne _ _ (by assumption)).trans (by assumption) | exact AH.none_put (by assumption) | exact AH.none_put (AH.none_put (by assumption)) | (simp only [AH.blk_setTok, AH.tok_put] at *; first | assumption | exact AH.none_put (by assumption)))) | (refine AH.le_putM ?_ (by first | assumption | exact (AH.mp_putM_ne _ _ (by assumption)).trans (by assumption) | (simp only [AH.mp_put, AH.mp_setTok] at *; assumption)))))⟩
  have h3 : i = l.length := by omega
  subst h3
  by_cases h6 : arS l l.length = 0
  · simp only [h6, F_plate_Lower, g_plate_Lower, go_sem, reduceIte, Nat.reduceEqDiff, Nat.reduceAdd, Nat.reduceMul, Nat.reduceSub, reduceCtorEq, Nat.reduceLeDiff, Nat.reduceLT, Int.reduceLT, Int.reduceLE, Int.reduceToNat, Int.reduceAdd, Int.reduceSub, Int.reduceNeg, Int.reduceMul, Int.reduceEq, ← Bool.decide_and, ← Bool.decide_or, ↓tq_n, ↓tq_e, ↓tq_r, ↓bq_n, ↓bq_e, ↓bq_r, ↓rq_n, ↓rq_r, ↓rq_e]
    exact ret_ok (by rw [lowV, if_pos h0, lwV, if_pos h6])
  have h00 : 0 < l.length := by
    rcases Nat.eq_zero_or_pos l.length with e | e
    · rw [e] at h6; exact absurd rfl h6
    · exact e
  obtain ⟨a1, a2, a3, a4⟩ := arP_b h0 h00
  unfold arP at a3 a4
  have hn0 : ¬ (p.1 - 2 * p.2.2) * (p.2.1 - 2 * p.2.2) = 0 := by omega
  have hn1 : ¬ (p.1 - 2 * p.2.2) * (p.2.1 - 2 * p.2.2) = -1 := by omega
  simp only [h6, hn0, hn1, F_plate_Lower, g_plate_Lower, go_sem, reduceIte, Nat.reduceEqDiff, Nat.reduceAdd, Nat.reduceMul, Nat.reduceSub, reduceCtorEq, Nat.reduceLeDiff, Nat.reduceLT, Int.reduceLT, Int.reduceLE, Int.reduceToNat, Int.reduceAdd, Int.reduceSub, Int.reduceNeg, Int.reduceMul, Int.reduceEq, ← Bool.decide_and, ← Bool.decide_or, ↓tq_n, ↓tq_e, ↓tq_r, ↓bq_n, ↓bq_e, ↓bq_r, ↓rq_n, ↓rq_r, ↓rq_e]
  refine ⟨by rw [inR64]; omega, by rw [inR64]; omega, by rw [inR64]; omega, by rw [inR64]; omega, by rw [inR64]; omega, by rw [inR64]; omega, by rw [inR64]; omega, hn0, ?_⟩
  obtain ⟨w1, w2, _⟩ := lwV_b h0
  have e : lwV l p = (arS l l.length + (p.1 - 2 * p.2.2) * (p.2.1 - 2 * p.2.2) - 1).tdiv ((p.1 - 2 * p.2.2) * (p.2.1 - 2 * p.2.2)) := by rw [lwV, if_neg h6]
  rw [← e]
  exact ⟨by rw [inR64]; omega, ret_ok (by rw [lowV, if_pos h0])⟩
theorem r_ref_Lower (nl : Bool) (l : List It) (tl : Tail) (p : It) (h : AH) : RCall Try.prog n_ref_Lower [.sl nl l.length (trs l) tl, i3 p] h (lowV l p) := by
  refine RCall.of hm cF_ref_Lower (by simp [g_ref_Lower]) fun hw h' hl => ?_
  simp only [F_ref_Lower, g_ref_Lower, go_sem, reduceIte, Nat.reduceEqDiff, Nat.reduceAdd, Nat.reduceMul, Nat.reduceSub, reduceCtorEq, Nat.reduceLeDiff, Nat.reduceLT, Int.reduceLT, Int.reduceLE, Int.reduceToNat, Int.reduceAdd, Int.reduceSub, Int.reduceNeg, Int.reduceMul, Int.reduceEq, ← Bool.decide_and, ← Bool.decide_or, ↓tq_n, ↓tq_e, ↓tq_r, ↓bq_n, ↓bq_e, ↓bq_r, ↓rq_n, ↓rq_r, ↓rq_e]
  refine CallG.mk (r_ref_large nl l tl p _) ?_
  simp only [F_ref_Lower, g_ref_Lower, go_sem, reduceIte, Nat.reduceEqDiff, Nat.reduceAdd, Nat.reduceMul, Nat.reduceSub, reduceCtorEq, Nat.reduceLeDiff, Nat.reduceLT, Int.reduceLT, Int.reduceLE, Int.reduceToNat, Int.reduceAdd, Int.reduceSub, Int.reduceNeg, Int.reduceMul, Int.reduceEq, ← Bool.decide_and, ← Bool.decide_or, ↓tq_n, ↓tq_e, ↓tq_r, ↓bq_n, ↓bq_e, ↓bq_r, ↓rq_n, ↓rq_r, ↓rq_e]
  refine ⟨fun h0 => ?_, fun h0 => ?_⟩
  · exact ret_ok (by simp [lowV, h0])
  obtain ⟨k1, k2⟩ := lgQ_ok h0
  obtain ⟨k3, g1, g2, g3⟩ := gvQ_ok k1
  obtain ⟨k4, k5⟩ := itQ_ok k3
  refine awp_loop (fun i : Nat => [(0, .sl nl l.length (trs l) tl), (3, .sptr [I p.1, I p.2.1, I p.2.2]), (7, I (arS l i)), (8, I i)]) (fun _ => h') (fun i => i ≤ l.length) (fun i => l.length - i) 0 (Nat.zero_le _) (GStep.forget (by repeat' first | exact EnvLe.nil _ | refine EnvLe.cons (AV.le.of_eq rfl) ?_ | refine EnvLe.cons (AV.le.undef _) ?_ | refine EnvLe.cons AV.le.unk ?_) (by repeat' first | exact AH.le.refl _ | assumption | (refine AH.le_put ?_ (by first | assumption | exact (AH.blk_put_ne _ _ (by assumption)).trans (by assumption) | exact AH.none_put (by assumption) | exact AH.none_put (AH.none_put (by assumption)) | (simp only [AH.blk_setTok, AH.tok_put] at *; first | assumption | exact AH.none_put (by assumption)))) | (refine AH.le_setTok ?_ (by first | assumption | exact (AH.blk_put_ne _ _ (by assumption)).trans (by assumption) | exact AH.none_put (by assumption) | exact AH.none_put (AH.none_put (by assumption)) | (simp only [AH.blk_setTok, AH.tok_put] at *; first | assumption | exact AH.none_put (by assumption)))) | (refine AH.le_putM ?_ (by first | assumption | exact (AH.mp_putM_ne _ _ (by assumption)).trans (by assumption) | (simp only [AH.mp_put, AH.mp_setTok] at *; assumption))))) fun i hi => .of_vg hm ?_
  have hb := arS_b k5 i hi
  by_cases h3 : i < l.length
  · have hc3 : (i : Int) < (l.length : Int) := by omega
    obtain ⟨_, b2, b3, _⟩ := k5 i h3
    have h4 := mul_b (show 0 ≤ _ ∧ _ from ⟨by omega, b2.2⟩) (show 0 ≤ _ ∧ _ from ⟨by omega, b3.2⟩)
    simp only [hc3, trs_dropI h3, F_ref_Lower, g_ref_Lower, go_sem, reduceIte, Nat.reduceEqDiff, Nat.reduceAdd, Nat.reduceMul, Nat.reduceSub, reduceCtorEq, Nat.reduceLeDiff, Nat.reduceLT, Int.reduceLT, Int.reduceLE, Int.reduceToNat, Int.reduceAdd, Int.reduceSub, Int.reduceNeg, Int.reduceMul, Int.reduceEq, ← Bool.decide_and, ← Bool.decide_or, ↓tq_n, ↓tq_e, ↓tq_r, ↓bq_n, ↓bq_e, ↓bq_r, ↓rq_n, ↓rq_r, ↓rq_e]
    exact ⟨by rw [inR64]; omega, by rw [inR64]; omega, by rw [inR64]; omega, i + 1, by omega, by omega, (GStep.forget (by repeat' first | exact EnvLe.nil _ | refine EnvLe.cons (AV.le.of_eq rfl) ?_ | refine EnvLe.cons (AV.le.undef _) ?_ | refine EnvLe.cons AV.le.unk ?_) (by repeat' first | exact AH.le.refl _ | assumption | (refine AH.le_put ?_ (by first | assumption | exact (AH.blk_put_ne _ _ (by assumption)).trans (by assumption) | exact AH.none_put (by assumption) | exact AH.none_put (AH.none_put (by assumption)) | (simp only [AH.blk_setTok, AH.tok_put] at *; first | assumption | exact AH.none_put (by assumption)))) | (refine AH.le_setTok ?_ (by first | assumption | exact (AH.blk_put_ne _ _ (by assumption)).trans (by assumption) | exact AH.none_put (by assumption) | exact AH.none_put (AH.none_put (by assumption)) | (simp only [AH.blk_setTok, AH.tok_put] at *; first | assumption | exact AH.none_put (by assumption)))) | (refine AH.le_putM ?_ (by first | assumption | exact (AH.mp_putM_ne _ _ (by assumption)).trans (by assumption) | (simp only [AH.mp_put, AH.mp_setTok] at *; assumption)))))⟩
  have h3 : i = l.length := by omega
  subst h3
  simp only [F_ref_Lower, g_ref_Lower, go_sem, reduceIte, Nat.reduceEqDiff, Nat.reduceAdd, Nat.reduceMul, Nat.reduceSub, reduceCtorEq, Nat.reduceLeDiff, Nat.reduceLT, Int.reduceLT, Int.reduceLE, Int.reduceToNat, Int.reduceAdd, Int.reduceSub, Int.reduceNeg, Int.reduceMul, Int.reduceEq, ← Bool.decide_and, ← Bool.decide_or, ↓tq_n, ↓tq_e, ↓tq_r, ↓bq_n, ↓bq_e, ↓bq_r, ↓rq_n, ↓rq_r, ↓rq_e]
  obtain ⟨w1, w2, w3⟩ := lwV_b h0
  refine awp_loop (fun n : Nat => [(3, .sptr [I p.1, I p.2.1, I p.2.2]), (7, I (arS l l.length)), (9, I n)]) (fun _ => h') (fun n => (n : Int) ≤ lwV l p) (fun n => (lwV l p).toNat - n) 0 (by omega) (GStep.forget (by repeat' first | exact EnvLe.nil _ | refine EnvLe.cons (AV.le.of_eq rfl) ?_ | refine EnvLe.cons (AV.le.undef _) ?_ | refine EnvLe.cons AV.le.unk ?_) (by repeat' first | exact AH.le.refl _ | assumption | (refine AH.le_put ?_ (by first | assumption | exact (AH.blk_put_ne _ _ (by assumption)).trans (by assumption) | exact AH.none_put (by assumption) | exact AH.none_put (AH.none_put (by assumption)) | (simp only [AH.blk_setTok, AH.tok_put] at *; first | assumption | exact AH.none_put (by assumption)))) | (refine AH.le_setTok ?_ (by first | assumption | exact (AH.blk_put_ne _ _ (by assumption)).trans (by assumption) | exact AH.none_put (by assumption) | exact AH.none_put (AH.none_put (by assumption)) | (simp only [AH.blk_setTok, AH.tok_put] at *; first | assumption | exact AH.none_put (by assumption)))) | (refine AH.le_putM ?_ (by first | assumption | exact (AH.mp_putM_ne _ _ (by assumption)).trans (by assumption) | (simp only [AH.mp_put, AH.mp_setTok] at *; assumption))))) fun n hn => .of_vg hm ?_
  have m1 := mul_b (a := n) (b := p.1 - 2 * p.2.2) (A := 400000) (B := 400) (by omega) (by omega)
  have m2 := mul_b (a := n * (p.1 - 2 * p.2.2)) (b := p.2.1 - 2 * p.2.2) (A := 160000000) (B := 400) (by omega) (by omega)
  have m3 : (n : Int) * (p.1 - 2 * p.2.2) * (p.2.1 - 2 * p.2.2) = n * arP p := by rw [arP, Int.mul_assoc]
  have w4 := w3 n (by omega) hn
  rw [← m3] at w4
  by_cases h7 : (n : Int) < lwV l p
  · have h8 := w4.2 h7
    simp only [h8, F_ref_Lower, g_ref_Lower, go_sem, reduceIte, Nat.reduceEqDiff, Nat.reduceAdd, Nat.reduceMul, Nat.reduceSub, reduceCtorEq, Nat.reduceLeDiff, Nat.reduceLT, Int.reduceLT, Int.reduceLE, Int.reduceToNat, Int.reduceAdd, Int.reduceSub, Int.reduceNeg, Int.reduceMul, Int.reduceEq, ← Bool.decide_and, ← Bool.decide_or, ↓tq_n, ↓tq_e, ↓tq_r, ↓bq_n, ↓bq_e, ↓bq_r, ↓rq_n, ↓rq_r, ↓rq_e]
    exact ⟨by rw [inR64]; omega, by rw [inR64]; omega, by rw [inR64]; omega, by rw [inR64]; omega, by rw [inR64]; omega, by rw [inR64]; omega, by rw [inR64]; omega, n + 1, by omega, by omega, (GStep.forget (by repeat' first | exact EnvLe.nil _ | refine EnvLe.cons (AV.le.of_eq rfl) ?_ | refine EnvLe.cons (AV.le.undef _) ?_ | refine EnvLe.cons AV.le.unk ?_) (by repeat' first | exact AH.le.refl _ | assumption | (refine AH.le_put ?_ (by first | assumption | exact (AH.blk_put_ne _ _ (by assumption)).trans (by assumption) | exact AH.none_put (by assumption) | exact AH.none_put (AH.none_put (by assumption)) | (simp only [AH.blk_setTok, AH.tok_put] at *; first | assumption | exact AH.none_put (by assumption)))) | (refine AH.le_setTok ?_ (by first | assumption | exact (AH.blk_put_ne _ _ (by assumption)).trans (by assumption) | exact AH.none_put (by assumption) | exact AH.none_put (AH.none_put (by assumption)) | (simp only [AH.blk_setTok, AH.tok_put] at *; first | assumption | exact AH.none_put (by assumption)))) | (refine AH.le_putM ?_ (by first | assumption | exact (AH.mp_putM_ne _ _ (by assumption)).trans (by assumption) | (simp only [AH.mp_put, AH.mp_setTok] at *; assumption)))))⟩
  · have h8 : ¬ (n : Int) * (p.1 - 2 * p.2.2) * (p.2.1 - 2 * p.2.2) < arS l l.length := fun hh => h7 (w4.1 hh)
    simp only [h8, F_ref_Lower, g_ref_Lower, go_sem, reduceIte, Nat.reduceEqDiff, Nat.reduceAdd, Nat.reduceMul, Nat.reduceSub, reduceCtorEq, Nat.reduceLeDiff, Nat.reduceLT, Int.reduceLT, Int.reduceLE, Int.reduceToNat, Int.reduceAdd, Int.reduceSub, Int.reduceNeg, Int.reduceMul, Int.reduceEq, ← Bool.decide_and, ← Bool.decide_or, ↓tq_n, ↓tq_e, ↓tq_r, ↓bq_n, ↓bq_e, ↓bq_r, ↓rq_n, ↓rq_r, ↓rq_e]
    refine ⟨by rw [inR64]; omega, by rw [inR64]; omega, by rw [inR64]; omega, by rw [inR64]; omega, by rw [inR64]; omega, by rw [inR64]; omega, ?_⟩
    have : (n : Int) = lwV l p := by omega
    exact ret_ok (by rw [lowV, if_pos h0, this])
end Go.Proofs.Ytkoecjhjdckgeaa
