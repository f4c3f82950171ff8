/- Calls of functions of this seat's program: layouts. No condition. -/
import Derived.Test.YtkoecjhjdckgeaaD3
import Derived.Test.YtkoecjhjdckgeaaC4
namespace Go.Proofs.Ytkoecjhjdckgeaa
open Go Go.Abs
set_option linter.unusedSimpArgs false
set_option linter.unusedVariables false
set_option maxRecDepth 20000

def layV (l : List It) (p : It) : AV := if lgQ l p = 0 then .tup [gl (sps (lay l p l.length)) l.length .unk, I 0] else .tup [.sl true 0 [] .full, I (lgQ l p)]
/-- Where the layout stands before item i. -/
def atS (l : List It) (p : It) : Nat → Sp × Int
  | 0 => ((0, 0, p.2.2, p.2.2), p.2.2)
  | i + 1 => laS l p i
theorem smI_of {l : List It} {i : Nat} (h : iOK l i) : smI (l.getD i dI) := by
  obtain ⟨_, h2, h3, _⟩ := h
  exact ⟨⟨by omega, h2.2⟩, by omega, h3.2⟩
theorem laS_succ (l : List It) (p : It) (i : Nat) : laS l p (i + 1) = ((nxS p (l.getD (i + 1) dI) (l.getD i dI) (laS l p i).1 (laS l p i).2).1, max (nxS p (l.getD (i + 1) dI) (l.getD i dI) (laS l p i).1 (laS l p i).2).2 ((nxS p (l.getD (i + 1) dI) (l.getD i dI) (laS l p i).1 (laS l p i).2).1.2.2.2 + (l.getD (i + 1) dI).2.2)) := rfl

section
variable {p x prev : It} {a : Sp} {low k k' : Int}
theorem inn_k {u v w : Int} (c : inn p x (k, u, v, w)) (k' u' : Int) : inn p x (k', u', v, w) := c
theorem nxS_1 (c : inn p x (k, a.2.1, a.2.2.1 + (prev.2.1 + p.2.2), a.2.2.2)) : nxS p x prev a low = ((x.1, a.2.1, a.2.2.1 + (prev.2.1 + p.2.2), a.2.2.2), low) := by
  unfold nxS
  simp only [Int.add_assoc]
  rw [if_pos (inn_k c _ _)]
theorem nxS_2 (c : ¬ inn p x (k, a.2.1, a.2.2.1 + (prev.2.1 + p.2.2), a.2.2.2)) (c2 : inn p x (k', a.2.1, p.2.2, low + p.2.2)) : nxS p x prev a low = ((x.1, a.2.1, p.2.2, low + p.2.2), low + p.2.2) := by
  unfold nxS
  simp only [Int.add_assoc]
  rw [if_neg (fun hh => c (inn_k hh _ _)), if_pos (inn_k c2 _ _)]
theorem nxS_3 (c : ¬ inn p x (k, a.2.1, a.2.2.1 + (prev.2.1 + p.2.2), a.2.2.2)) (c2 : ¬ inn p x (k', a.2.1, p.2.2, low + p.2.2)) : nxS p x prev a low = ((x.1, a.2.1 + 1, p.2.2, p.2.2), p.2.2) := by
  unfold nxS
  simp only [Int.add_assoc]
  rw [if_neg (fun hh => c (inn_k hh _ _)), if_neg (fun hh => c2 (inn_k hh _ _))]
theorem nxR_1 (c : inn p x (k, a.2.1, a.2.2.1 + prev.2.1 + p.2.2, a.2.2.2)) : nxS p x prev a low = ((x.1, a.2.1, a.2.2.1 + prev.2.1 + p.2.2, a.2.2.2), low) := by
  unfold nxS
  simp only []
  rw [if_pos (inn_k c _ _)]
theorem nxR_2 (c : ¬ inn p x (k, a.2.1, a.2.2.1 + prev.2.1 + p.2.2, a.2.2.2)) (c2 : inn p x (k', a.2.1, p.2.2, low + p.2.2)) : nxS p x prev a low = ((x.1, a.2.1, p.2.2, low + p.2.2), low + p.2.2) := by
  unfold nxS
  simp only []
  rw [if_neg (fun hh => c (inn_k hh _ _)), if_pos (inn_k c2 _ _)]
theorem nxR_3 (c : ¬ inn p x (k, a.2.1, a.2.2.1 + prev.2.1 + p.2.2, a.2.2.2)) (c2 : ¬ inn p x (k', a.2.1, p.2.2, low + p.2.2)) : nxS p x prev a low = ((x.1, a.2.1 + 1, p.2.2, p.2.2), p.2.2) := by
  unfold nxS
  simp only []
  rw [if_neg (fun hh => c (inn_k hh _ _)), if_neg (fun hh => c2 (inn_k hh _ _))]
end
theorem r_plate_Layout (nl : Bool) (l : List It) (tl : Tail) (p : It) (h : AH) : RCall Try.prog n_plate_Layout [.sl nl l.length (trs l) tl, i3 p] h (layV l p) := by
  refine RCall.of hm cF_plate_Layout (by simp [g_plate_Layout]) fun hw h' hl => ?_
  simp only [F_plate_Layout, g_plate_Layout, go_sem, reduceIte, Nat.reduceEqDiff, Nat.reduceAdd, Nat.reduceMul, Nat.reduceSub, reduceCtorEq, Nat.reduceLeDiff, Nat.reduceLT, Int.reduceLT, Int.reduceLE, Int.reduceToNat, Int.reduceAdd, Int.reduceSub, Int.reduceNeg, Int.reduceMul, Int.reduceEq, ← Bool.decide_and, ← Bool.decide_or, ↓tq_n, ↓tq_e, ↓tq_r, ↓bq_n, ↓bq_e, ↓bq_r, ↓rq_n, ↓rq_r, ↓rq_e]
  refine CallG.mk (r_plate_fits nl l tl p _) ?_
  simp only [F_plate_Layout, g_plate_Layout, go_sem, reduceIte, Nat.reduceEqDiff, Nat.reduceAdd, Nat.reduceMul, Nat.reduceSub, reduceCtorEq, Nat.reduceLeDiff, Nat.reduceLT, Int.reduceLT, Int.reduceLE, Int.reduceToNat, Int.reduceAdd, Int.reduceSub, Int.reduceNeg, Int.reduceMul, Int.reduceEq, ← Bool.decide_and, ← Bool.decide_or, ↓tq_n, ↓tq_e, ↓tq_r, ↓bq_n, ↓bq_e, ↓bq_r, ↓rq_n, ↓rq_r, ↓rq_e]
  refine ⟨fun h0 => ?_, fun h0 => ?_⟩
  · exact ret_ok (by simp [layV, h0])
  obtain ⟨k1, k2⟩ := lgQ_ok h0
  obtain ⟨k3, gp⟩ := gvQ_ok k1
  obtain ⟨k4, k5⟩ := itQ_ok k3
  have gp' := gp
  obtain ⟨g1, g2, g3⟩ := gp'
  refine AllocG.mk fun b hb => ?_
  simp only [F_plate_Layout, g_plate_Layout, go_sem, reduceIte, Nat.reduceEqDiff, Nat.reduceAdd, Nat.reduceMul, Nat.reduceSub, reduceCtorEq, Nat.reduceLeDiff, Nat.reduceLT, Int.reduceLT, Int.reduceLE, Int.reduceToNat, Int.reduceAdd, Int.reduceSub, Int.reduceNeg, Int.reduceMul, Int.reduceEq, ← Bool.decide_and, ← Bool.decide_or, ↓tq_n, ↓tq_e, ↓tq_r, ↓bq_n, ↓bq_e, ↓bq_r, ↓rq_n, ↓rq_r, ↓rq_e]
  refine awp_tok 7 4 (nl := true) (n := 0) (cs := []) rfl fun t ht => ?_
  refine awp_loop (fun i : Nat => [(0, .sl nl l.length (trs l) tl), (3, .sptr [I p.1, I p.2.1, I p.2.2]), (7, gl (sps (lay l p i)) i (.tok t)), (8, .ptr b 0), (9, I (atS l p i).2), (25, .sl nl l.length (trs l) tl), (26, I l.length), (27, I i)]) (fun i => (h'.setTok t i 4).put b (spc (atS l p i).1)) (fun i => i ≤ l.length) (fun i => l.length - i) 0 (Nat.zero_le _) (GStep.forget (by repeat' first | exact EnvLe.nil _ | refine EnvLe.cons (AV.le.of_eq rfl) ?_ | refine EnvLe.cons (AV.le.undef _) ?_ | refine EnvLe.cons AV.le.unk ?_) (by repeat' first | exact AH.le.refl _ | assumption | (refine AH.le_put ?_ (by first | assumption | exact (AH.blk_put_ne _ _ (by assumption)).trans (by assumption) | exact AH.none_put (by assumption) | exact AH.none_put (AH.none_put (by assumption)) | (simp only [AH.blk_setTok, AH.tok_put] at *; first | assumption | exact AH.none_put (by assumption)))) | (refine AH.le_setTok ?_ (by first | assumption | exact (AH.blk_put_ne _ _ (by assumption)).trans (by assumption) | exact AH.none_put (by assumption) | exact AH.none_put (AH.none_put (by assumption)) | (simp only [AH.blk_setTok, AH.tok_put] at *; first | assumption | exact AH.none_put (by assumption)))) | (refine AH.le_putM ?_ (by first | assumption | exact (AH.mp_putM_ne _ _ (by assumption)).trans (by assumption) | (simp only [AH.mp_put, AH.mp_setTok] at *; assumption))))) fun i hi => .of_vg hm ?_
  by_cases h3 : i < l.length
  case neg =>
    have h3 : i = l.length := by omega
    subst h3
    simp only [F_plate_Layout, g_plate_Layout, go_sem, reduceIte, Nat.reduceEqDiff, Nat.reduceAdd, Nat.reduceMul, Nat.reduceSub, reduceCtorEq, Nat.reduceLeDiff, Nat.reduceLT, Int.reduceLT, Int.reduceLE, Int.reduceToNat, Int.reduceAdd, Int.reduceSub, Int.reduceNeg, Int.reduceMul, Int.reduceEq, ← Bool.decide_and, ← Bool.decide_or, ↓tq_n, ↓tq_e, ↓tq_r, ↓bq_n, ↓bq_e, ↓bq_r, ↓rq_n, ↓rq_r, ↓rq_e]
    refine ret_le (by repeat' first | exact AH.le.refl _ | assumption | (refine AH.le_put ?_ (by first | assumption | exact (AH.blk_put_ne _ _ (by assumption)).trans (by assumption) | exact AH.none_put (by assumption) | exact AH.none_put (AH.none_put (by assumption)) | (simp only [AH.blk_setTok, AH.tok_put] at *; first | assumption | exact AH.none_put (by assumption)))) | (refine AH.le_setTok ?_ (by first | assumption | exact (AH.blk_put_ne _ _ (by assumption)).trans (by assumption) | exact AH.none_put (by assumption) | exact AH.none_put (AH.none_put (by assumption)) | (simp only [AH.blk_setTok, AH.tok_put] at *; first | assumption | exact AH.none_put (by assumption)))) | (refine AH.le_putM ?_ (by first | assumption | exact (AH.mp_putM_ne _ _ (by assumption)).trans (by assumption) | (simp only [AH.mp_put, AH.mp_setTok] at *; assumption)))) ?_
    unfold layV
    rw [if_pos h0]
    exact AV.le.tupC (.cons AV.le.glU (.cons (AV.le.refl _) .nil))
  have hc3 : (i : Int) < (l.length : Int) := by omega
  have hsm := smI_of (k5 i h3)
  cases i with
  | zero =>
    have e1 : lay l p (0 + 1) = lay l p 0 ++ [(laS l p 0).1] := lay_succ l p 0
    have hz : ¬ (0 : Int) < ((0 : Nat) : Int) := by omega
    unfold smI at hsm
    simp only [hc3, trs_dropI h3, atS, spc, hz, F_plate_Layout, g_plate_Layout, go_sem, reduceIte, Nat.reduceEqDiff, Nat.reduceAdd, Nat.reduceMul, Nat.reduceSub, reduceCtorEq, Nat.reduceLeDiff, Nat.reduceLT, Int.reduceLT, Int.reduceLE, Int.reduceToNat, Int.reduceAdd, Int.reduceSub, Int.reduceNeg, Int.reduceMul, Int.reduceEq, ← Bool.decide_and, ← Bool.decide_or, ↓tq_n, ↓tq_e, ↓tq_r, ↓bq_n, ↓bq_e, ↓bq_r, ↓rq_n, ↓rq_r, ↓rq_e]
    refine ⟨by rw [inR64]; omega, sps_len _, by rw [inR64]; omega, 1, by omega, by omega, ?_⟩
    rw [e1, sps_append, sps_one]
    exact (GStep.forget (by repeat' first | exact EnvLe.nil _ | refine EnvLe.cons (AV.le.of_eq rfl) ?_ | refine EnvLe.cons (AV.le.undef _) ?_ | refine EnvLe.cons AV.le.unk ?_) (by repeat' first | exact AH.le.refl _ | assumption | (refine AH.le_put ?_ (by first | assumption | exact (AH.blk_put_ne _ _ (by assumption)).trans (by assumption) | exact AH.none_put (by assumption) | exact AH.none_put (AH.none_put (by assumption)) | (simp only [AH.blk_setTok, AH.tok_put] at *; first | assumption | exact AH.none_put (by assumption)))) | (refine AH.le_setTok ?_ (by first | assumption | exact (AH.blk_put_ne _ _ (by assumption)).trans (by assumption) | exact AH.none_put (by assumption) | exact AH.none_put (AH.none_put (by assumption)) | (simp only [AH.blk_setTok, AH.tok_put] at *; first | assumption | exact AH.none_put (by assumption)))) | (refine AH.le_putM ?_ (by first | assumption | exact (AH.mp_putM_ne _ _ (by assumption)).trans (by assumption) | (simp only [AH.mp_put, AH.mp_setTok] at *; assumption)))))
  | succ j =>
    obtain ⟨b1, b2, b3, b4⟩ := laS_ok gp k5 k2 j (by omega)
    have hj : j < l.length := by omega
    have e1 : lay l p (j + 1 + 1) = lay l p (j + 1) ++ [(laS l p (j + 1)).1] := lay_succ l p (j + 1)
    have e2 := laS_succ l p j
    have e3 : atS l p (j + 1 + 1) = laS l p (j + 1) := rfl
    have e4 : atS l p (j + 1) = laS l p j := rfl
    have hjj : ((j + 1 : Nat) : Int) - 1 = (j : Int) := by omega
    have hj0 : (0 : Int) < ((j + 1 : Nat) : Int) := by omega
    have hj1 : (j : Int) < (l.length : Int) := by omega
    rw [e4]
    generalize laS l p j = A at *
    obtain ⟨a, low⟩ := A
    simp only at b1 b2 b3 b4
    unfold inn at b3
    obtain ⟨q1, q2, q3, q4⟩ := b3
    have hsj := smI_of (k5 j hj)
    unfold smI at hsj
    have hsm' := hsm
    unfold smI at hsm'
    simp only [hc3, trs_dropI h3, spc, hj0, hjj, hj1, trs_dropI hj, F_plate_Layout, g_plate_Layout, go_sem, reduceIte, Nat.reduceEqDiff, Nat.reduceAdd, Nat.reduceMul, Nat.reduceSub, reduceCtorEq, Nat.reduceLeDiff, Nat.reduceLT, Int.reduceLT, Int.reduceLE, Int.reduceToNat, Int.reduceAdd, Int.reduceSub, Int.reduceNeg, Int.reduceMul, Int.reduceEq, ← Bool.decide_and, ← Bool.decide_or, ↓tq_n, ↓tq_e, ↓tq_r, ↓bq_n, ↓bq_e, ↓bq_r, ↓rq_n, ↓rq_r, ↓rq_e]
    refine ⟨by rw [inR64]; omega, by rw [inR64]; omega, by rw [inR64]; omega, CallG.mk (r_plate_inner (l.getD (j + 1) dI) p (a.1, a.2.1, a.2.2.1 + ((l.getD j dI).2.1 + p.2.2), a.2.2.2) _ gp hsm) ?_⟩
    by_cases c1 : inn p (l.getD (j + 1) dI) (a.1, a.2.1, a.2.2.1 + ((l.getD j dI).2.1 + p.2.2), a.2.2.2)
    · rw [nxS_1 c1] at e2
      rw [decide_eq_true c1]
      simp only [F_plate_Layout, g_plate_Layout, go_sem, reduceIte, Nat.reduceEqDiff, Nat.reduceAdd, Nat.reduceMul, Nat.reduceSub, reduceCtorEq, Nat.reduceLeDiff, Nat.reduceLT, Int.reduceLT, Int.reduceLE, Int.reduceToNat, Int.reduceAdd, Int.reduceSub, Int.reduceNeg, Int.reduceMul, Int.reduceEq, ← Bool.decide_and, ← Bool.decide_or, ↓tq_n, ↓tq_e, ↓tq_r, ↓bq_n, ↓bq_e, ↓bq_r, ↓rq_n, ↓rq_r, ↓rq_e]
      refine ⟨by rw [inR64]; omega, by rw [sps_len, lay_len], by omega, by omega, by rw [inR64]; omega, j + 1 + 1, by omega, by omega, ?_⟩
      rw [e1, e3, e2, sps_append, sps_one]
      exact (GStep.forget (by repeat' first | exact EnvLe.nil _ | refine EnvLe.cons (AV.le.of_eq rfl) ?_ | refine EnvLe.cons (AV.le.undef _) ?_ | refine EnvLe.cons AV.le.unk ?_) (by repeat' first | exact AH.le.refl _ | assumption | (refine AH.le_put ?_ (by first | assumption | exact (AH.blk_put_ne _ _ (by assumption)).trans (by assumption) | exact AH.none_put (by assumption) | exact AH.none_put (AH.none_put (by assumption)) | (simp only [AH.blk_setTok, AH.tok_put] at *; first | assumption | exact AH.none_put (by assumption)))) | (refine AH.le_setTok ?_ (by first | assumption | exact (AH.blk_put_ne _ _ (by assumption)).trans (by assumption) | exact AH.none_put (by assumption) | exact AH.none_put (AH.none_put (by assumption)) | (simp only [AH.blk_setTok, AH.tok_put] at *; first | assumption | exact AH.none_put (by assumption)))) | (refine AH.le_putM ?_ (by first | assumption | exact (AH.mp_putM_ne _ _ (by assumption)).trans (by assumption) | (simp only [AH.mp_put, AH.mp_setTok] at *; assumption)))))
    rw [decide_eq_false c1]
    simp only [F_plate_Layout, g_plate_Layout, go_sem, reduceIte, Nat.reduceEqDiff, Nat.reduceAdd, Nat.reduceMul, Nat.reduceSub, reduceCtorEq, Nat.reduceLeDiff, Nat.reduceLT, Int.reduceLT, Int.reduceLE, Int.reduceToNat, Int.reduceAdd, Int.reduceSub, Int.reduceNeg, Int.reduceMul, Int.reduceEq, ← Bool.decide_and, ← Bool.decide_or, ↓tq_n, ↓tq_e, ↓tq_r, ↓bq_n, ↓bq_e, ↓bq_r, ↓rq_n, ↓rq_r, ↓rq_e]
    refine ⟨by rw [inR64]; omega, CallG.mk (r_plate_inner (l.getD (j + 1) dI) p (a.1, a.2.1, p.2.2, low + p.2.2) _ gp hsm) ?_⟩
    by_cases c2 : inn p (l.getD (j + 1) dI) (a.1, a.2.1, p.2.2, low + p.2.2)
    · rw [nxS_2 c1 c2] at e2
      rw [decide_eq_true c2]
      simp only [F_plate_Layout, g_plate_Layout, go_sem, reduceIte, Nat.reduceEqDiff, Nat.reduceAdd, Nat.reduceMul, Nat.reduceSub, reduceCtorEq, Nat.reduceLeDiff, Nat.reduceLT, Int.reduceLT, Int.reduceLE, Int.reduceToNat, Int.reduceAdd, Int.reduceSub, Int.reduceNeg, Int.reduceMul, Int.reduceEq, ← Bool.decide_and, ← Bool.decide_or, ↓tq_n, ↓tq_e, ↓tq_r, ↓bq_n, ↓bq_e, ↓bq_r, ↓rq_n, ↓rq_r, ↓rq_e]
      refine ⟨by rw [inR64]; omega, by rw [sps_len, lay_len], by omega, by omega, by rw [inR64]; omega, j + 1 + 1, by omega, by omega, ?_⟩
      rw [e1, e3, e2, sps_append, sps_one]
      exact (GStep.forget (by repeat' first | exact EnvLe.nil _ | refine EnvLe.cons (AV.le.of_eq rfl) ?_ | refine EnvLe.cons (AV.le.undef _) ?_ | refine EnvLe.cons AV.le.unk ?_) (by repeat' first | exact AH.le.refl _ | assumption | (refine AH.le_put ?_ (by first | assumption | exact (AH.blk_put_ne _ _ (by assumption)).trans (by assumption) | exact AH.none_put (by assumption) | exact AH.none_put (AH.none_put (by assumption)) | (simp only [AH.blk_setTok, AH.tok_put] at *; first | assumption | exact AH.none_put (by assumption)))) | (refine AH.le_setTok ?_ (by first | assumption | exact (AH.blk_put_ne _ _ (by assumption)).trans (by assumption) | exact AH.none_put (by assumption) | exact AH.none_put (AH.none_put (by assumption)) | (simp only [AH.blk_setTok, AH.tok_put] at *; first | assumption | exact AH.none_put (by assumption)))) | (refine AH.le_putM ?_ (by first | assumption | exact (AH.mp_putM_ne _ _ (by assumption)).trans (by assumption) | (simp only [AH.mp_put, AH.mp_setTok] at *; assumption)))))
    rw [nxS_3 c1 c2] at e2
    rw [decide_eq_false c2]
    simp only [F_plate_Layout, g_plate_Layout, go_sem, reduceIte, Nat.reduceEqDiff, Nat.reduceAdd, Nat.reduceMul, Nat.reduceSub, reduceCtorEq, Nat.reduceLeDiff, Nat.reduceLT, Int.reduceLT, Int.reduceLE, Int.reduceToNat, Int.reduceAdd, Int.reduceSub, Int.reduceNeg, Int.reduceMul, Int.reduceEq, ← Bool.decide_and, ← Bool.decide_or, ↓tq_n, ↓tq_e, ↓tq_r, ↓bq_n, ↓bq_e, ↓bq_r, ↓rq_n, ↓rq_r, ↓rq_e]
    refine ⟨by rw [inR64]; omega, by rw [inR64]; omega, by rw [sps_len, lay_len], by omega, by omega, by rw [inR64]; omega, j + 1 + 1, by omega, by omega, ?_⟩
    rw [e1, e3, e2, sps_append, sps_one]
    exact (GStep.forget (by repeat' first | exact EnvLe.nil _ | refine EnvLe.cons (AV.le.of_eq rfl) ?_ | refine EnvLe.cons (AV.le.undef _) ?_ | refine EnvLe.cons AV.le.unk ?_) (by repeat' first | exact AH.le.refl _ | assumption | (refine AH.le_put ?_ (by first | assumption | exact (AH.blk_put_ne _ _ (by assumption)).trans (by assumption) | exact AH.none_put (by assumption) | exact AH.none_put (AH.none_put (by assumption)) | (simp only [AH.blk_setTok, AH.tok_put] at *; first | assumption | exact AH.none_put (by assumption)))) | (refine AH.le_setTok ?_ (by first | assumption | exact (AH.blk_put_ne _ _ (by assumption)).trans (by assumption) | exact AH.none_put (by assumption) | exact AH.none_put (AH.none_put (by assumption)) | (simp only [AH.blk_setTok, AH.tok_put] at *; first | assumption | exact AH.none_put (by assumption)))) | (refine AH.le_putM ?_ (by first | assumption | exact (AH.mp_putM_ne _ _ (by assumption)).trans (by assumption) | (simp only [AH.mp_put, AH.mp_setTok] at *; assumption)))))
theorem r_ref_Layout (nl : Bool) (l : List It) (tl : Tail) (p : It) (h : AH) : RCall Try.prog n_ref_Layout [.sl nl l.length (trs l) tl, i3 p] h (layV l p) := by
  refine RCall.of hm cF_ref_Layout (by simp [g_ref_Layout]) fun hw h' hl => ?_
  simp only [F_ref_Layout, g_ref_Layout, go_sem, reduceIte, Nat.reduceEqDiff, Nat.reduceAdd, Nat.reduceMul, Nat.reduceSub, reduceCtorEq, Nat.reduceLeDiff, Nat.reduceLT, Int.reduceLT, Int.reduceLE, Int.reduceToNat, Int.reduceAdd, Int.reduceSub, Int.reduceNeg, Int.reduceMul, Int.reduceEq, ← Bool.decide_and, ← Bool.decide_or, ↓tq_n, ↓tq_e, ↓tq_r, ↓bq_n, ↓bq_e, ↓bq_r, ↓rq_n, ↓rq_r, ↓rq_e]
  refine CallG.mk (r_ref_large nl l tl p _) ?_
  simp only [F_ref_Layout, g_ref_Layout, go_sem, reduceIte, Nat.reduceEqDiff, Nat.reduceAdd, Nat.reduceMul, Nat.reduceSub, reduceCtorEq, Nat.reduceLeDiff, Nat.reduceLT, Int.reduceLT, Int.reduceLE, Int.reduceToNat, Int.reduceAdd, Int.reduceSub, Int.reduceNeg, Int.reduceMul, Int.reduceEq, ← Bool.decide_and, ← Bool.decide_or, ↓tq_n, ↓tq_e, ↓tq_r, ↓bq_n, ↓bq_e, ↓bq_r, ↓rq_n, ↓rq_r, ↓rq_e]
  refine ⟨fun h0 => ?_, fun h0 => ?_⟩
  · exact ret_ok (by simp [layV, h0])
  obtain ⟨k1, k2⟩ := lgQ_ok h0
  obtain ⟨k3, gp⟩ := gvQ_ok k1
  obtain ⟨k4, k5⟩ := itQ_ok k3
  have gp' := gp
  obtain ⟨g1, g2, g3⟩ := gp'
  refine awp_tok 7 4 (nl := true) (n := 0) (cs := []) rfl fun t ht => ?_
  refine awp_loop (fun i : Nat => [(0, .sl nl l.length (trs l) tl), (3, .sptr [I p.1, I p.2.1, I p.2.2]), (7, gl (sps (lay l p i)) i (.tok t)), (8, I (atS l p i).2), (9, I i)]) (fun i => h'.setTok t i 4) (fun i => i ≤ l.length) (fun i => l.length - i) 0 (Nat.zero_le _) (GStep.forget (by repeat' first | exact EnvLe.nil _ | refine EnvLe.cons (AV.le.of_eq rfl) ?_ | refine EnvLe.cons (AV.le.undef _) ?_ | refine EnvLe.cons AV.le.unk ?_) (by repeat' first | exact AH.le.refl _ | assumption | (refine AH.le_put ?_ (by first | assumption | exact (AH.blk_put_ne _ _ (by assumption)).trans (by assumption) | exact AH.none_put (by assumption) | exact AH.none_put (AH.none_put (by assumption)) | (simp only [AH.blk_setTok, AH.tok_put] at *; first | assumption | exact AH.none_put (by assumption)))) | (refine AH.le_setTok ?_ (by first | assumption | exact (AH.blk_put_ne _ _ (by assumption)).trans (by assumption) | exact AH.none_put (by assumption) | exact AH.none_put (AH.none_put (by assumption)) | (simp only [AH.blk_setTok, AH.tok_put] at *; first | assumption | exact AH.none_put (by assumption)))) | (refine AH.le_putM ?_ (by first | assumption | exact (AH.mp_putM_ne _ _ (by assumption)).trans (by assumption) | (simp only [AH.mp_put, AH.mp_setTok] at *; assumption))))) fun i hi => .of_vg hm ?_
  by_cases h3 : i < l.length
  case neg =>
    have h3 : i = l.length := by omega
    subst h3
    simp only [F_ref_Layout, g_ref_Layout, go_sem, reduceIte, Nat.reduceEqDiff, Nat.reduceAdd, Nat.reduceMul, Nat.reduceSub, reduceCtorEq, Nat.reduceLeDiff, Nat.reduceLT, Int.reduceLT, Int.reduceLE, Int.reduceToNat, Int.reduceAdd, Int.reduceSub, Int.reduceNeg, Int.reduceMul, Int.reduceEq, ← Bool.decide_and, ← Bool.decide_or, ↓tq_n, ↓tq_e, ↓tq_r, ↓bq_n, ↓bq_e, ↓bq_r, ↓rq_n, ↓rq_r, ↓rq_e]
    refine ret_le (by repeat' first | exact AH.le.refl _ | assumption | (refine AH.le_put ?_ (by first | assumption | exact (AH.blk_put_ne _ _ (by assumption)).trans (by assumption) | exact AH.none_put (by assumption) | exact AH.none_put (AH.none_put (by assumption)) | (simp only [AH.blk_setTok, AH.tok_put] at *; first | assumption | exact AH.none_put (by assumption)))) | (refine AH.le_setTok ?_ (by first | assumption | exact (AH.blk_put_ne _ _ (by assumption)).trans (by assumption) | exact AH.none_put (by assumption) | exact AH.none_put (AH.none_put (by assumption)) | (simp only [AH.blk_setTok, AH.tok_put] at *; first | assumption | exact AH.none_put (by assumption)))) | (refine AH.le_putM ?_ (by first | assumption | exact (AH.mp_putM_ne _ _ (by assumption)).trans (by assumption) | (simp only [AH.mp_put, AH.mp_setTok] at *; assumption)))) ?_
    unfold layV
    rw [if_pos h0]
    exact AV.le.tupC (.cons AV.le.glU (.cons (AV.le.refl _) .nil))
  have hc3 : (i : Int) < (l.length : Int) := by omega
  have hsm := smI_of (k5 i h3)
  have hsm' := hsm
  unfold smI at hsm'
  cases i with
  | zero =>
    have e1 : lay l p (0 + 1) = lay l p 0 ++ [(laS l p 0).1] := lay_succ l p 0
    have hz : ¬ (0 : Int) < ((0 : Nat) : Int) := by omega
    simp only [hc3, trs_dropI h3, atS, hz, F_ref_Layout, g_ref_Layout, go_sem, reduceIte, Nat.reduceEqDiff, Nat.reduceAdd, Nat.reduceMul, Nat.reduceSub, reduceCtorEq, Nat.reduceLeDiff, Nat.reduceLT, Int.reduceLT, Int.reduceLE, Int.reduceToNat, Int.reduceAdd, Int.reduceSub, Int.reduceNeg, Int.reduceMul, Int.reduceEq, ← Bool.decide_and, ← Bool.decide_or, ↓tq_n, ↓tq_e, ↓tq_r, ↓bq_n, ↓bq_e, ↓bq_r, ↓rq_n, ↓rq_r, ↓rq_e]
    refine AllocG.mk fun b hb => ?_
    simp only [hc3, trs_dropI h3, atS, hz, F_ref_Layout, g_ref_Layout, go_sem, reduceIte, Nat.reduceEqDiff, Nat.reduceAdd, Nat.reduceMul, Nat.reduceSub, reduceCtorEq, Nat.reduceLeDiff, Nat.reduceLT, Int.reduceLT, Int.reduceLE, Int.reduceToNat, Int.reduceAdd, Int.reduceSub, Int.reduceNeg, Int.reduceMul, Int.reduceEq, ← Bool.decide_and, ← Bool.decide_or, ↓tq_n, ↓tq_e, ↓tq_r, ↓bq_n, ↓bq_e, ↓bq_r, ↓rq_n, ↓rq_r, ↓rq_e]
    refine ⟨by rw [inR64]; omega, sps_len _, by rw [inR64]; omega, 1, by omega, by omega, ?_⟩
    rw [e1, sps_append, sps_one]
    exact (GStep.forget (by repeat' first | exact EnvLe.nil _ | refine EnvLe.cons (AV.le.of_eq rfl) ?_ | refine EnvLe.cons (AV.le.undef _) ?_ | refine EnvLe.cons AV.le.unk ?_) (by repeat' first | exact AH.le.refl _ | assumption | (refine AH.le_put ?_ (by first | assumption | exact (AH.blk_put_ne _ _ (by assumption)).trans (by assumption) | exact AH.none_put (by assumption) | exact AH.none_put (AH.none_put (by assumption)) | (simp only [AH.blk_setTok, AH.tok_put] at *; first | assumption | exact AH.none_put (by assumption)))) | (refine AH.le_setTok ?_ (by first | assumption | exact (AH.blk_put_ne _ _ (by assumption)).trans (by assumption) | exact AH.none_put (by assumption) | exact AH.none_put (AH.none_put (by assumption)) | (simp only [AH.blk_setTok, AH.tok_put] at *; first | assumption | exact AH.none_put (by assumption)))) | (refine AH.le_putM ?_ (by first | assumption | exact (AH.mp_putM_ne _ _ (by assumption)).trans (by assumption) | (simp only [AH.mp_put, AH.mp_setTok] at *; assumption)))))
  | succ j =>
    obtain ⟨b1, b2, b3, b4⟩ := laS_ok gp k5 k2 j (by omega)
    have hj : j < l.length := by omega
    have e1 : lay l p (j + 1 + 1) = lay l p (j + 1) ++ [(laS l p (j + 1)).1] := lay_succ l p (j + 1)
    have e2 := laS_succ l p j
    have e3 : atS l p (j + 1 + 1) = laS l p (j + 1) := rfl
    have e4 : atS l p (j + 1) = laS l p j := rfl
    have hd := sps_drop (l := lay l p (j + 1)) (i := j) (by rw [lay_len]; omega)
    rw [lay_get (Nat.lt_succ_self j)] at hd
    have hjj : ((j + 1 : Nat) : Int) - 1 = (j : Int) := by omega
    have hj0 : (0 : Int) < ((j + 1 : Nat) : Int) := by omega
    have hj1 : (j : Int) < (l.length : Int) := by omega
    have hj2 : (j : Int) < ((j + 1 : Nat) : Int) := by omega
    rw [e4]
    generalize laS l p j = A at *
    obtain ⟨a, low⟩ := A
    simp only at b1 b2 b3 b4
    unfold inn at b3
    obtain ⟨q1, q2, q3, q4⟩ := b3
    have hsj := smI_of (k5 j hj)
    unfold smI at hsj
    simp only [hc3, trs_dropI h3, hj0, hjj, hj1, trs_dropI hj, F_ref_Layout, g_ref_Layout, go_sem, reduceIte, Nat.reduceEqDiff, Nat.reduceAdd, Nat.reduceMul, Nat.reduceSub, reduceCtorEq, Nat.reduceLeDiff, Nat.reduceLT, Int.reduceLT, Int.reduceLE, Int.reduceToNat, Int.reduceAdd, Int.reduceSub, Int.reduceNeg, Int.reduceMul, Int.reduceEq, ← Bool.decide_and, ← Bool.decide_or, ↓tq_n, ↓tq_e, ↓tq_r, ↓bq_n, ↓bq_e, ↓bq_r, ↓rq_n, ↓rq_r, ↓rq_e]
    refine AllocG.mk fun b hb => ?_
    simp only [hc3, trs_dropI h3, hj0, hjj, hj1, hj2, trs_dropI hj, hd, F_ref_Layout, g_ref_Layout, go_sem, reduceIte, Nat.reduceEqDiff, Nat.reduceAdd, Nat.reduceMul, Nat.reduceSub, reduceCtorEq, Nat.reduceLeDiff, Nat.reduceLT, Int.reduceLT, Int.reduceLE, Int.reduceToNat, Int.reduceAdd, Int.reduceSub, Int.reduceNeg, Int.reduceMul, Int.reduceEq, ← Bool.decide_and, ← Bool.decide_or, ↓tq_n, ↓tq_e, ↓tq_r, ↓bq_n, ↓bq_e, ↓bq_r, ↓rq_n, ↓rq_r, ↓rq_e]
    refine ⟨by rw [inR64]; omega, by rw [inR64]; omega, by rw [inR64]; omega, by rw [inR64]; omega, CallG.mk (r_ref_within (l.getD (j + 1) dI) p ((l.getD (j + 1) dI).1, a.2.1, a.2.2.1 + (l.getD j dI).2.1 + p.2.2, a.2.2.2) _ gp hsm ⟨by simp only; omega, by simp only; omega⟩) ?_⟩
    by_cases c1 : inn p (l.getD (j + 1) dI) ((l.getD (j + 1) dI).1, a.2.1, a.2.2.1 + (l.getD j dI).2.1 + p.2.2, a.2.2.2)
    · rw [nxR_1 c1] at e2
      rw [decide_eq_true c1]
      simp only [hc3, trs_dropI h3, F_ref_Layout, g_ref_Layout, go_sem, reduceIte, Nat.reduceEqDiff, Nat.reduceAdd, Nat.reduceMul, Nat.reduceSub, reduceCtorEq, Nat.reduceLeDiff, Nat.reduceLT, Int.reduceLT, Int.reduceLE, Int.reduceToNat, Int.reduceAdd, Int.reduceSub, Int.reduceNeg, Int.reduceMul, Int.reduceEq, ← Bool.decide_and, ← Bool.decide_or, ↓tq_n, ↓tq_e, ↓tq_r, ↓bq_n, ↓bq_e, ↓bq_r, ↓rq_n, ↓rq_r, ↓rq_e]
      refine CallG.mk (r_ref_within (l.getD (j + 1) dI) p ((l.getD (j + 1) dI).1, a.2.1, a.2.2.1 + (l.getD j dI).2.1 + p.2.2, a.2.2.2) _ gp hsm ⟨by simp only; omega, by simp only; omega⟩) ?_
      rw [decide_eq_true c1]
      simp only [hc3, trs_dropI h3, F_ref_Layout, g_ref_Layout, go_sem, reduceIte, Nat.reduceEqDiff, Nat.reduceAdd, Nat.reduceMul, Nat.reduceSub, reduceCtorEq, Nat.reduceLeDiff, Nat.reduceLT, Int.reduceLT, Int.reduceLE, Int.reduceToNat, Int.reduceAdd, Int.reduceSub, Int.reduceNeg, Int.reduceMul, Int.reduceEq, ← Bool.decide_and, ← Bool.decide_or, ↓tq_n, ↓tq_e, ↓tq_r, ↓bq_n, ↓bq_e, ↓bq_r, ↓rq_n, ↓rq_r, ↓rq_e]
      refine ⟨by rw [inR64]; omega, by rw [sps_len, lay_len], by omega, by omega, by rw [inR64]; omega, j + 1 + 1, by omega, by omega, ?_⟩
      rw [e1, e3, e2, sps_append, sps_one]
      exact (GStep.forget (by repeat' first | exact EnvLe.nil _ | refine EnvLe.cons (AV.le.of_eq rfl) ?_ | refine EnvLe.cons (AV.le.undef _) ?_ | refine EnvLe.cons AV.le.unk ?_) (by repeat' first | exact AH.le.refl _ | assumption | (refine AH.le_put ?_ (by first | assumption | exact (AH.blk_put_ne _ _ (by assumption)).trans (by assumption) | exact AH.none_put (by assumption) | exact AH.none_put (AH.none_put (by assumption)) | (simp only [AH.blk_setTok, AH.tok_put] at *; first | assumption | exact AH.none_put (by assumption)))) | (refine AH.le_setTok ?_ (by first | assumption | exact (AH.blk_put_ne _ _ (by assumption)).trans (by assumption) | exact AH.none_put (by assumption) | exact AH.none_put (AH.none_put (by assumption)) | (simp only [AH.blk_setTok, AH.tok_put] at *; first | assumption | exact AH.none_put (by assumption)))) | (refine AH.le_putM ?_ (by first | assumption | exact (AH.mp_putM_ne _ _ (by assumption)).trans (by assumption) | (simp only [AH.mp_put, AH.mp_setTok] at *; assumption)))))
    rw [decide_eq_false c1]
    simp only [hc3, trs_dropI h3, F_ref_Layout, g_ref_Layout, go_sem, reduceIte, Nat.reduceEqDiff, Nat.reduceAdd, Nat.reduceMul, Nat.reduceSub, reduceCtorEq, Nat.reduceLeDiff, Nat.reduceLT, Int.reduceLT, Int.reduceLE, Int.reduceToNat, Int.reduceAdd, Int.reduceSub, Int.reduceNeg, Int.reduceMul, Int.reduceEq, ← Bool.decide_and, ← Bool.decide_or, ↓tq_n, ↓tq_e, ↓tq_r, ↓bq_n, ↓bq_e, ↓bq_r, ↓rq_n, ↓rq_r, ↓rq_e]
    refine ⟨by rw [inR64]; omega, CallG.mk (r_ref_within (l.getD (j + 1) dI) p ((l.getD (j + 1) dI).1, a.2.1, p.2.2, low + p.2.2) _ gp hsm ⟨by simp only; omega, by simp only; omega⟩) ?_⟩
    by_cases c2 : inn p (l.getD (j + 1) dI) ((l.getD (j + 1) dI).1, a.2.1, p.2.2, low + p.2.2)
    · rw [nxR_2 c1 c2] at e2
      rw [decide_eq_true c2]
      simp only [hc3, trs_dropI h3, F_ref_Layout, g_ref_Layout, go_sem, reduceIte, Nat.reduceEqDiff, Nat.reduceAdd, Nat.reduceMul, Nat.reduceSub, reduceCtorEq, Nat.reduceLeDiff, Nat.reduceLT, Int.reduceLT, Int.reduceLE, Int.reduceToNat, Int.reduceAdd, Int.reduceSub, Int.reduceNeg, Int.reduceMul, Int.reduceEq, ← Bool.decide_and, ← Bool.decide_or, ↓tq_n, ↓tq_e, ↓tq_r, ↓bq_n, ↓bq_e, ↓bq_r, ↓rq_n, ↓rq_r, ↓rq_e]
      refine ⟨by rw [inR64]; omega, by rw [sps_len, lay_len], by omega, by omega, by rw [inR64]; omega, j + 1 + 1, by omega, by omega, ?_⟩
      rw [e1, e3, e2, sps_append, sps_one]
      exact (GStep.forget (by repeat' first | exact EnvLe.nil _ | refine EnvLe.cons (AV.le.of_eq rfl) ?_ | refine EnvLe.cons (AV.le.undef _) ?_ | refine EnvLe.cons AV.le.unk ?_) (by repeat' first | exact AH.le.refl _ | assumption | (refine AH.le_put ?_ (by first | assumption | exact (AH.blk_put_ne _ _ (by assumption)).trans (by assumption) | exact AH.none_put (by assumption) | exact AH.none_put (AH.none_put (by assumption)) | (simp only [AH.blk_setTok, AH.tok_put] at *; first | assumption | exact AH.none_put (by assumption)))) | (refine AH.le_setTok ?_ (by first | assumption | exact (AH.blk_put_ne _ _ (by assumption)).trans (by assumption) | exact AH.none_put (by assumption) | exact AH.none_put (AH.none_put (by assumption)) | (simp only [AH.blk_setTok, AH.tok_put] at *; first | assumption | exact AH.none_put (by assumption)))) | (refine AH.le_putM ?_ (by first | assumption | exact (AH.mp_putM_ne _ _ (by assumption)).trans (by assumption) | (simp only [AH.mp_put, AH.mp_setTok] at *; assumption)))))
    rw [nxR_3 c1 c2] at e2
    rw [decide_eq_false c2]
    simp only [hc3, trs_dropI h3, F_ref_Layout, g_ref_Layout, go_sem, reduceIte, Nat.reduceEqDiff, Nat.reduceAdd, Nat.reduceMul, Nat.reduceSub, reduceCtorEq, Nat.reduceLeDiff, Nat.reduceLT, Int.reduceLT, Int.reduceLE, Int.reduceToNat, Int.reduceAdd, Int.reduceSub, Int.reduceNeg, Int.reduceMul, Int.reduceEq, ← Bool.decide_and, ← Bool.decide_or, ↓tq_n, ↓tq_e, ↓tq_r, ↓bq_n, ↓bq_e, ↓bq_r, ↓rq_n, ↓rq_r, ↓rq_e]
    refine ⟨by rw [inR64]; omega, by rw [inR64]; omega, by rw [sps_len, lay_len], by omega, by omega, by rw [inR64]; omega, j + 1 + 1, by omega, by omega, ?_⟩
    rw [e1, e3, e2, sps_append, sps_one]
    exact (GStep.forget (by repeat' first | exact EnvLe.nil _ | refine EnvLe.cons (AV.le.of_eq rfl) ?_ | refine EnvLe.cons (AV.le.undef _) ?_ | refine EnvLe.cons AV.le.unk ?_) (by repeat' first | exact AH.le.refl _ | assumption | (refine AH.le_put ?_ (by first | assumption | exact (AH.blk_put_ne _ _ (by assumption)).trans (by assumption) | exact AH.none_put (by assumption) | exact AH.none_put (AH.none_put (by assumption)) | (simp only [AH.blk_setTok, AH.tok_put] at *; first | assumption | exact AH.none_put (by assumption)))) | (refine AH.le_setTok ?_ (by first | assumption | exact (AH.blk_put_ne _ _ (by assumption)).trans (by assumption) | exact AH.none_put (by assumption) | exact AH.none_put (AH.none_put (by assumption)) | (simp only [AH.blk_setTok, AH.tok_put] at *; first | assumption | exact AH.none_put (by assumption)))) | (refine AH.le_putM ?_ (by first | assumption | exact (AH.mp_putM_ne _ _ (by assumption)).trans (by assumption) | (simp only [AH.mp_put, AH.mp_setTok] at *; assumption)))))
end Go.Proofs.Ytkoecjhjdckgeaa
