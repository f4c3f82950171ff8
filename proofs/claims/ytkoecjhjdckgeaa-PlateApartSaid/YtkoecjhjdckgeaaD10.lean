/- The laws PlateFull and PlateApart. No condition. -/
import Derived.Test.YtkoecjhjdckgeaaD9
namespace Go.Proofs.Ytkoecjhjdckgeaa
open Go Go.Abs
set_option linter.unusedSimpArgs false
set_option linter.unusedVariables false
set_option maxRecDepth 20000

/-- From one spot to the next. -/
theorem full_step {l : List It} {p : It} (hp : pgOK p) (hi : ∀ i, i < l.length → iOK l i) (hb : ∀ i, i < l.length → ¬ big p (l.getD i dI)) {i : Nat} (h : i + 1 < l.length) :
    ((laS l p (i + 1)).1.2.1 ≠ (laS l p i).1.2.1 → ¬ ((laS l p i).2 + p.2.2 + (l.getD (i + 1) dI).2.2 ≤ p.2.1 - p.2.2) ∧ (laS l p (i + 1)).2 = max 0 ((laS l p (i + 1)).1.2.2.2 + (l.getD (i + 1) dI).2.2)) ∧
    ((laS l p (i + 1)).1.2.1 = (laS l p i).1.2.1 → ¬ ((laS l p (i + 1)).1.2.2.1 = p.2.2 ∧ (laS l p i).1.2.2.1 + (l.getD i dI).2.1 + p.2.2 + (l.getD (i + 1) dI).2.1 ≤ p.1 - p.2.2 ∧ (laS l p i).1.2.2.2 + (l.getD (i + 1) dI).2.2 ≤ p.2.1 - p.2.2) ∧ (laS l p (i + 1)).2 = max (laS l p i).2 ((laS l p (i + 1)).1.2.2.2 + (l.getD (i + 1) dI).2.2)) := by
  obtain ⟨b1, b2, b3, b4⟩ := laS_ok hp hi hb i (by omega)
  have h1 := hi (i + 1) h
  have h2 := hb (i + 1) h
  have h3 := hi i (by omega)
  obtain ⟨p1, p2, p3⟩ := hp
  unfold iOK at h1 h3
  unfold big at h2
  rw [laS_succ]
  generalize laS l p i = A at *
  obtain ⟨a, low⟩ := A
  simp only at b1 b2 b3 b4 ⊢
  unfold inn at b3
  unfold nxS
  simp only
  split
  · rename_i hc
    unfold inn at hc
    simp only at hc
    exact ⟨fun hh => absurd rfl hh, fun _ => ⟨fun hh => by simp only at hh; omega, rfl⟩⟩
  · rename_i hc
    unfold inn at hc
    simp only at hc
    split
    · rename_i hc2
      unfold inn at hc2
      simp only at hc2
      exact ⟨fun hh => absurd rfl hh, fun _ => ⟨fun hh => by simp only at hh; omega, by simp only; omega⟩⟩
    · rename_i hc2
      unfold inn at hc2
      simp only at hc2
      exact ⟨fun hh => ⟨by omega, by simp only; omega⟩, fun hh => by simp only at hh; omega⟩

/-- The lowest edge before item i. -/
def lwB (l : List It) (p : It) : Nat → Int
  | 0 => 0
  | i + 1 => (laS l p i).2
set_option maxHeartbeats 1000000 in
theorem r_law_PlateFull (nl : Bool) (l : List It) (tl : Tail) (p : It) (h : AH) : RCall Try.prog n_law_PlateFull [.sl nl l.length (trs l) tl, i3 p] h (.bool true) := by
  refine RCall.of hm cF_law_PlateFull (by simp [g_law_PlateFull]) fun hw h' hl => ?_
  simp only [F_law_PlateFull, g_law_PlateFull, go_sem, reduceIte, Nat.reduceEqDiff, Nat.reduceAdd, Nat.reduceMul, Nat.reduceSub, reduceCtorEq, Nat.reduceLeDiff, Nat.reduceLT, Int.reduceLT, Int.reduceLE, Int.reduceToNat, Int.reduceAdd, Int.reduceSub, Int.reduceNeg, Int.reduceMul, Int.reduceEq, ← Bool.decide_and, ← Bool.decide_or, ↓tq_n, ↓tq_e, ↓tq_r, ↓bq_n, ↓bq_e, ↓bq_r, ↓rq_n, ↓rq_r, ↓rq_e]
  refine CallG.mk (r_law_awake _) ?_
  by_cases k1 : (40 : Int) < (l.length : Int)
  · simp only [k1, F_law_PlateFull, g_law_PlateFull, go_sem, reduceIte, Nat.reduceEqDiff, Nat.reduceAdd, Nat.reduceMul, Nat.reduceSub, reduceCtorEq, Nat.reduceLeDiff, Nat.reduceLT, Int.reduceLT, Int.reduceLE, Int.reduceToNat, Int.reduceAdd, Int.reduceSub, Int.reduceNeg, Int.reduceMul, Int.reduceEq, ← Bool.decide_and, ← Bool.decide_or, ↓tq_n, ↓tq_e, ↓tq_r, ↓bq_n, ↓bq_e, ↓bq_r, ↓rq_n, ↓rq_r, ↓rq_e]
    refine CallG.mk (r_law_awake _) ?_
    simp only [F_law_PlateFull, g_law_PlateFull, go_sem, reduceIte, Nat.reduceEqDiff, Nat.reduceAdd, Nat.reduceMul, Nat.reduceSub, reduceCtorEq, Nat.reduceLeDiff, Nat.reduceLT, Int.reduceLT, Int.reduceLE, Int.reduceToNat, Int.reduceAdd, Int.reduceSub, Int.reduceNeg, Int.reduceMul, Int.reduceEq, ← Bool.decide_and, ← Bool.decide_or, ↓tq_n, ↓tq_e, ↓tq_r, ↓bq_n, ↓bq_e, ↓bq_r, ↓rq_n, ↓rq_r, ↓rq_e]
    exact ret_ok rfl
  simp only [k1, F_law_PlateFull, g_law_PlateFull, go_sem, reduceIte, Nat.reduceEqDiff, Nat.reduceAdd, Nat.reduceMul, Nat.reduceSub, reduceCtorEq, Nat.reduceLeDiff, Nat.reduceLT, Int.reduceLT, Int.reduceLE, Int.reduceToNat, Int.reduceAdd, Int.reduceSub, Int.reduceNeg, Int.reduceMul, Int.reduceEq, ← Bool.decide_and, ← Bool.decide_or, ↓tq_n, ↓tq_e, ↓tq_r, ↓bq_n, ↓bq_e, ↓bq_r, ↓rq_n, ↓rq_r, ↓rq_e]
  refine CallG.mk (r_plate_Layout nl l tl p _) ?_
  by_cases h0 : lgQ l p = 0
  case neg =>
    rw [show layV l p = .tup [.sl true 0 [] .full, I (lgQ l p)] by rw [layV, if_neg h0]]
    simp only [h0, F_law_PlateFull, g_law_PlateFull, go_sem, reduceIte, Nat.reduceEqDiff, Nat.reduceAdd, Nat.reduceMul, Nat.reduceSub, reduceCtorEq, Nat.reduceLeDiff, Nat.reduceLT, Int.reduceLT, Int.reduceLE, Int.reduceToNat, Int.reduceAdd, Int.reduceSub, Int.reduceNeg, Int.reduceMul, Int.reduceEq, ← Bool.decide_and, ← Bool.decide_or, ↓tq_n, ↓tq_e, ↓tq_r, ↓bq_n, ↓bq_e, ↓bq_r, ↓rq_n, ↓rq_r, ↓rq_e]
    exact ret_ok rfl
  rw [show layV l p = .tup [.sl (decide (l.length = 0)) l.length (sps (lay l p l.length)) .unk, I 0] by rw [layV, if_pos h0]; simp only [gl, Bool.and_true]]
  simp only [F_law_PlateFull, g_law_PlateFull, go_sem, reduceIte, Nat.reduceEqDiff, Nat.reduceAdd, Nat.reduceMul, Nat.reduceSub, reduceCtorEq, Nat.reduceLeDiff, Nat.reduceLT, Int.reduceLT, Int.reduceLE, Int.reduceToNat, Int.reduceAdd, Int.reduceSub, Int.reduceNeg, Int.reduceMul, Int.reduceEq, ← Bool.decide_and, ← Bool.decide_or, ↓tq_n, ↓tq_e, ↓tq_r, ↓bq_n, ↓bq_e, ↓bq_r, ↓rq_n, ↓rq_r, ↓rq_e]
  obtain ⟨c1, c2⟩ := lgQ_ok h0
  obtain ⟨c3, gp⟩ := gvQ_ok c1
  obtain ⟨c4, c5⟩ := itQ_ok c3
  have hlow : ∀ i, i < l.length → 0 ≤ (laS l p i).2 ∧ (laS l p i).2 ≤ 400 := fun i hi => by
    obtain ⟨_, _, _, b4⟩ := laS_ok gp c5 c2 i hi
    obtain ⟨g1, g2, g3⟩ := gp
    omega
  refine awp_loop (fun i : Nat => [(0, .sl nl l.length (trs l) tl), (3, .sptr [I p.1, I p.2.1, I p.2.2]), (5, .sl (decide (l.length = 0)) l.length (sps (lay l p l.length)) .unk), (7, I (lwB l p i)), (8, I i)]) (fun _ => h') (fun i => i ≤ l.length) (fun i => l.length - i) 0 (Nat.zero_le _) (GStep.forget (by repeat' first | exact EnvLe.nil _ | refine EnvLe.cons (AV.le.of_eq rfl) ?_ | refine EnvLe.cons (AV.le.undef _) ?_ | refine EnvLe.cons AV.le.unk ?_) (by repeat' first | exact AH.le.refl _ | assumption | (refine AH.le_put ?_ (by first | assumption | exact (AH.blk_put_ne _ _ (by assumption)).trans (by assumption) | exact AH.none_put (by assumption) | exact AH.none_put (AH.none_put (by assumption)) | (simp only [AH.blk_setTok, AH.tok_put] at *; first | assumption | exact AH.none_put (by assumption)))) | (refine AH.le_setTok ?_ (by first | assumption | exact (AH.blk_put_ne _ _ (by assumption)).trans (by assumption) | exact AH.none_put (by assumption) | exact AH.none_put (AH.none_put (by assumption)) | (simp only [AH.blk_setTok, AH.tok_put] at *; first | assumption | exact AH.none_put (by assumption)))) | (refine AH.le_putM ?_ (by first | assumption | exact (AH.mp_putM_ne _ _ (by assumption)).trans (by assumption) | (simp only [AH.mp_put, AH.mp_setTok] at *; assumption))))) fun i hi => .of_vg hm ?_
  by_cases h3 : i < l.length
  case neg =>
    have h3 : i = l.length := by omega
    subst h3
    simp only [F_law_PlateFull, g_law_PlateFull, go_sem, reduceIte, Nat.reduceEqDiff, Nat.reduceAdd, Nat.reduceMul, Nat.reduceSub, reduceCtorEq, Nat.reduceLeDiff, Nat.reduceLT, Int.reduceLT, Int.reduceLE, Int.reduceToNat, Int.reduceAdd, Int.reduceSub, Int.reduceNeg, Int.reduceMul, Int.reduceEq, ← Bool.decide_and, ← Bool.decide_or, ↓tq_n, ↓tq_e, ↓tq_r, ↓bq_n, ↓bq_e, ↓bq_r, ↓rq_n, ↓rq_r, ↓rq_e]
    exact ret_ok rfl
  have hc3 : (i : Int) < (l.length : Int) := by omega
  have hd := sps_drop (l := lay l p l.length) (i := i) (by rw [lay_len]; exact h3)
  rw [lay_get h3] at hd
  obtain ⟨_, b2, b3, b4⟩ := laS_ok gp c5 c2 i h3
  have hsm := smI_of (c5 i h3)
  unfold smI at hsm
  have gp' := gp
  obtain ⟨g1, g2, g3⟩ := gp'
  unfold inn at b3
  cases i with
  | zero =>
    have hz : ¬ (0 : Int) < ((0 : Nat) : Int) := by omega
    have f4 : max (lwB l p 0) ((laS l p 0).1.2.2.2 + (l.getD 0 dI).2.2) = (laS l p 0).2 := by simp only [laS, lwB]; omega
    simp only [hc3, hd, trs_dropI h3, hz, F_law_PlateFull, g_law_PlateFull, go_sem, reduceIte, Nat.reduceEqDiff, Nat.reduceAdd, Nat.reduceMul, Nat.reduceSub, reduceCtorEq, Nat.reduceLeDiff, Nat.reduceLT, Int.reduceLT, Int.reduceLE, Int.reduceToNat, Int.reduceAdd, Int.reduceSub, Int.reduceNeg, Int.reduceMul, Int.reduceEq, ← Bool.decide_and, ← Bool.decide_or, ↓tq_n, ↓tq_e, ↓tq_r, ↓bq_n, ↓bq_e, ↓bq_r, ↓rq_n, ↓rq_r, ↓rq_e]
    rw [f4]
    exact ⟨by rw [inR64]; omega, by rw [inR64]; omega, 1, by omega, by omega, (GStep.forget (by repeat' first | exact EnvLe.nil _ | refine EnvLe.cons (AV.le.of_eq rfl) ?_ | refine EnvLe.cons (AV.le.undef _) ?_ | refine EnvLe.cons AV.le.unk ?_) (by repeat' first | exact AH.le.refl _ | assumption | (refine AH.le_put ?_ (by first | assumption | exact (AH.blk_put_ne _ _ (by assumption)).trans (by assumption) | exact AH.none_put (by assumption) | exact AH.none_put (AH.none_put (by assumption)) | (simp only [AH.blk_setTok, AH.tok_put] at *; first | assumption | exact AH.none_put (by assumption)))) | (refine AH.le_setTok ?_ (by first | assumption | exact (AH.blk_put_ne _ _ (by assumption)).trans (by assumption) | exact AH.none_put (by assumption) | exact AH.none_put (AH.none_put (by assumption)) | (simp only [AH.blk_setTok, AH.tok_put] at *; first | assumption | exact AH.none_put (by assumption)))) | (refine AH.le_putM ?_ (by first | assumption | exact (AH.mp_putM_ne _ _ (by assumption)).trans (by assumption) | (simp only [AH.mp_put, AH.mp_setTok] at *; assumption)))))⟩
  | succ j =>
    have hj : j < l.length := by omega
    have hj0 : (0 : Int) < ((j + 1 : Nat) : Int) := by omega
    have hjj : ((j + 1 : Nat) : Int) - 1 = (j : Int) := by omega
    have hj1 : (j : Int) < (l.length : Int) := by omega
    have hd2 := sps_drop (l := lay l p l.length) (i := j) (by rw [lay_len]; exact hj)
    rw [lay_get hj] at hd2
    obtain ⟨f1, f2⟩ := full_step gp c5 c2 h3
    obtain ⟨_, u2, u3, u4⟩ := laS_ok gp c5 c2 j hj
    have lo1 := hlow j hj
    have lo2 := hlow (j + 1) h3
    have hsj := smI_of (c5 j hj)
    unfold smI at hsj
    unfold inn at u3
    have hs1 : lwB l p (j + 1) = (laS l p j).2 := rfl
    rw [hs1]
    by_cases e1 : (laS l p (j + 1)).1.2.1 = (laS l p j).1.2.1
    · obtain ⟨f3, f4⟩ := f2 e1
      simp only [hc3, hd, trs_dropI h3, hj0, hjj, hj1, hd2, trs_dropI hj, e1, F_law_PlateFull, g_law_PlateFull, go_sem, reduceIte, Nat.reduceEqDiff, Nat.reduceAdd, Nat.reduceMul, Nat.reduceSub, reduceCtorEq, Nat.reduceLeDiff, Nat.reduceLT, Int.reduceLT, Int.reduceLE, Int.reduceToNat, Int.reduceAdd, Int.reduceSub, Int.reduceNeg, Int.reduceMul, Int.reduceEq, ← Bool.decide_and, ← Bool.decide_or, ↓tq_n, ↓tq_e, ↓tq_r, ↓bq_n, ↓bq_e, ↓bq_r, ↓rq_n, ↓rq_r, ↓rq_e]
      rw [← f4]
      repeat' first
        | refine ⟨by rw [inR64]; omega, by rw [inR64]; omega, j + 1 + 1, by omega, by omega, (GStep.forget (by repeat' first | exact EnvLe.nil _ | refine EnvLe.cons (AV.le.of_eq rfl) ?_ | refine EnvLe.cons (AV.le.undef _) ?_ | refine EnvLe.cons AV.le.unk ?_) (by repeat' first | exact AH.le.refl _ | assumption | (refine AH.le_put ?_ (by first | assumption | exact (AH.blk_put_ne _ _ (by assumption)).trans (by assumption) | exact AH.none_put (by assumption) | exact AH.none_put (AH.none_put (by assumption)) | (simp only [AH.blk_setTok, AH.tok_put] at *; first | assumption | exact AH.none_put (by assumption)))) | (refine AH.le_setTok ?_ (by first | assumption | exact (AH.blk_put_ne _ _ (by assumption)).trans (by assumption) | exact AH.none_put (by assumption) | exact AH.none_put (AH.none_put (by assumption)) | (simp only [AH.blk_setTok, AH.tok_put] at *; first | assumption | exact AH.none_put (by assumption)))) | (refine AH.le_putM ?_ (by first | assumption | exact (AH.mp_putM_ne _ _ (by assumption)).trans (by assumption) | (simp only [AH.mp_put, AH.mp_setTok] at *; assumption)))))⟩
        | refine ⟨by rw [inR64]; omega, ?_⟩
        | refine ⟨fun _ => ?_, fun _ => ?_⟩
        | (exfalso; exact f3 ⟨by assumption, by assumption, by assumption⟩)
    · obtain ⟨f3, f4⟩ := f1 e1
      simp only [hc3, hd, trs_dropI h3, hj0, hjj, hj1, hd2, trs_dropI hj, e1, f3, F_law_PlateFull, g_law_PlateFull, go_sem, reduceIte, Nat.reduceEqDiff, Nat.reduceAdd, Nat.reduceMul, Nat.reduceSub, reduceCtorEq, Nat.reduceLeDiff, Nat.reduceLT, Int.reduceLT, Int.reduceLE, Int.reduceToNat, Int.reduceAdd, Int.reduceSub, Int.reduceNeg, Int.reduceMul, Int.reduceEq, ← Bool.decide_and, ← Bool.decide_or, ↓tq_n, ↓tq_e, ↓tq_r, ↓bq_n, ↓bq_e, ↓bq_r, ↓rq_n, ↓rq_r, ↓rq_e]
      rw [← f4]
      repeat' first
        | refine ⟨by rw [inR64]; omega, by rw [inR64]; omega, j + 1 + 1, by omega, by omega, (GStep.forget (by repeat' first | exact EnvLe.nil _ | refine EnvLe.cons (AV.le.of_eq rfl) ?_ | refine EnvLe.cons (AV.le.undef _) ?_ | refine EnvLe.cons AV.le.unk ?_) (by repeat' first | exact AH.le.refl _ | assumption | (refine AH.le_put ?_ (by first | assumption | exact (AH.blk_put_ne _ _ (by assumption)).trans (by assumption) | exact AH.none_put (by assumption) | exact AH.none_put (AH.none_put (by assumption)) | (simp only [AH.blk_setTok, AH.tok_put] at *; first | assumption | exact AH.none_put (by assumption)))) | (refine AH.le_setTok ?_ (by first | assumption | exact (AH.blk_put_ne _ _ (by assumption)).trans (by assumption) | exact AH.none_put (by assumption) | exact AH.none_put (AH.none_put (by assumption)) | (simp only [AH.blk_setTok, AH.tok_put] at *; first | assumption | exact AH.none_put (by assumption)))) | (refine AH.le_putM ?_ (by first | assumption | exact (AH.mp_putM_ne _ _ (by assumption)).trans (by assumption) | (simp only [AH.mp_put, AH.mp_setTok] at *; assumption)))))⟩
        | refine ⟨by rw [inR64]; omega, ?_⟩
        | refine ⟨fun _ => ?_, fun _ => ?_⟩
end Go.Proofs.Ytkoecjhjdckgeaa
