/- Calls of functions of this seat's program: the reference's chains. No condition. -/
import Derived.Test.YtndcbompcnlhmaaD9
import Derived.Test.YtndcbompcnlhmaaP3
namespace Go.Proofs.Ytndcbompcnlhmaa
open Go Go.Abs
set_option linter.unusedSimpArgs false
set_option linter.unusedVariables false
set_option maxRecDepth 20000

theorem plc_inj {l : List Spm} {a b : Int} (ha : 0 ≤ plc l a) (hb : 0 ≤ plc l b) : plc l a = plc l b ↔ a = b := by
  constructor
  · intro h
    have e1 := plc_some ha
    have e2 := plc_some hb
    rw [h] at e1
    exact e1.symm.trans e2
  · rintro rfl; rfl
theorem any_take_false {α : Type} (d : α) {c : List α} {p : α → Bool} : ∀ {i : Nat}, i ≤ c.length → (∀ j, j < i → p (c.getD j d) = false) → (c.take i).any p = false := by
  intro i
  induction i with
  | zero => intro _ _; simp
  | succ i ih => intro hi h; rw [any_take_succ d (by omega), ih (by omega) (fun j hj => h j (by omega)), h i (by omega)]; rfl
set_option maxHeartbeats 2000000 in
theorem r_ref_check (n1 : Bool) (l : List Spm) (u1 : Tail) (n2 : Bool) (c : List (Int × Int)) (u2 : Tail) (h : AH) : RCall Try.prog n_ref_check [.sl n1 l.length (sms l) u1, .sl n2 c.length (prs c) u2] h (I (gaE l c)) := by
  refine RCall.of hm cF_ref_check (by simp [g_ref_check]) fun hw h' hl => ?_
  simp only [F_ref_check, g_ref_check, go_sem, reduceIte, Nat.reduceEqDiff, Nat.reduceAdd, Nat.reduceMul, Nat.reduceSub, reduceCtorEq, Nat.reduceLeDiff, Nat.reduceLT, Int.reduceLT, Int.reduceLE, Int.reduceToNat, Int.reduceAdd, Int.reduceSub, Int.reduceNeg, Int.reduceMul, Int.reduceEq, ← Bool.decide_and, ← Bool.decide_or, ↓tq_n, ↓tq_e, ↓tq_r, ↓bq_n, ↓bq_e, ↓bq_r, ↓rq_n, ↓rq_r, ↓rq_e]
  refine CallG.mk (r_base_Check n1 l u1 _) ?_
  by_cases c1 : ckE l = 0
  case neg =>
    simp only [c1, F_ref_check, g_ref_check, go_sem, reduceIte, Nat.reduceEqDiff, Nat.reduceAdd, Nat.reduceMul, Nat.reduceSub, reduceCtorEq, Nat.reduceLeDiff, Nat.reduceLT, Int.reduceLT, Int.reduceLE, Int.reduceToNat, Int.reduceAdd, Int.reduceSub, Int.reduceNeg, Int.reduceMul, Int.reduceEq, ← Bool.decide_and, ← Bool.decide_or, ↓tq_n, ↓tq_e, ↓tq_r, ↓bq_n, ↓bq_e, ↓bq_r, ↓rq_n, ↓rq_r, ↓rq_e]
    exact ret_ok (by unfold gaE; rw [if_neg c1])
  by_cases c2 : 24 < l.length
  · have c2' : (24 : Int) < (l.length : Int) := by omega
    simp only [c1, c2', F_ref_check, g_ref_check, go_sem, reduceIte, Nat.reduceEqDiff, Nat.reduceAdd, Nat.reduceMul, Nat.reduceSub, reduceCtorEq, Nat.reduceLeDiff, Nat.reduceLT, Int.reduceLT, Int.reduceLE, Int.reduceToNat, Int.reduceAdd, Int.reduceSub, Int.reduceNeg, Int.reduceMul, Int.reduceEq, ← Bool.decide_and, ← Bool.decide_or, ↓tq_n, ↓tq_e, ↓tq_r, ↓bq_n, ↓bq_e, ↓bq_r, ↓rq_n, ↓rq_r, ↓rq_e]
    exact ret_ok (by unfold gaE; rw [if_pos c1, if_pos (.inl c2)])
  have c2' : ¬ (24 : Int) < (l.length : Int) := by omega
  by_cases c3 : 64 < c.length
  · have c3' : (64 : Int) < (c.length : Int) := by omega
    simp only [c1, c2', c3', F_ref_check, g_ref_check, go_sem, reduceIte, Nat.reduceEqDiff, Nat.reduceAdd, Nat.reduceMul, Nat.reduceSub, reduceCtorEq, Nat.reduceLeDiff, Nat.reduceLT, Int.reduceLT, Int.reduceLE, Int.reduceToNat, Int.reduceAdd, Int.reduceSub, Int.reduceNeg, Int.reduceMul, Int.reduceEq, ← Bool.decide_and, ← Bool.decide_or, ↓tq_n, ↓tq_e, ↓tq_r, ↓bq_n, ↓bq_e, ↓bq_r, ↓rq_n, ↓rq_r, ↓rq_e]
    exact ret_ok (by unfold gaE; rw [if_pos c1, if_pos (.inr c3)])
  have c3' : ¬ (64 : Int) < (c.length : Int) := by omega
  have hgE : gaE l c = if c.any (fun q => decide (plc l q.1 < 0 ∨ plc l q.2 < 0)) then 7 else if c.any (fun q => decide (plc l q.1 = plc l q.2)) then 1 else 0 := by
    unfold gaE; rw [if_pos c1, if_neg (by omega)]
  simp only [c1, c2', c3', F_ref_check, g_ref_check, go_sem, reduceIte, Nat.reduceEqDiff, Nat.reduceAdd, Nat.reduceMul, Nat.reduceSub, reduceCtorEq, Nat.reduceLeDiff, Nat.reduceLT, Int.reduceLT, Int.reduceLE, Int.reduceToNat, Int.reduceAdd, Int.reduceSub, Int.reduceNeg, Int.reduceMul, Int.reduceEq, ← Bool.decide_and, ← Bool.decide_or, ↓tq_n, ↓tq_e, ↓tq_r, ↓bq_n, ↓bq_e, ↓bq_r, ↓rq_n, ↓rq_r, ↓rq_e]
  refine awp_loop (fun i : Nat => [(0, .sl n1 l.length (sms l) u1), (1, .sl n2 c.length (prs c) u2), (6, I i)]) (fun _ => h') (fun i => i ≤ c.length ∧ ∀ j, j < i → 0 ≤ plc l (c.getD j (0, 0)).1 ∧ 0 ≤ plc l (c.getD j (0, 0)).2) (fun i => c.length - i) 0 ⟨Nat.zero_le _, fun j hj => absurd hj (Nat.not_lt_zero _)⟩ (GStep.forget (by repeat' first | exact EnvLe.nil _ | refine EnvLe.cons (AV.le.of_eq rfl) ?_ | refine EnvLe.cons (AV.le.undef _) ?_ | refine EnvLe.cons AV.le.unk ?_) (by repeat' first | exact AH.le.refl _ | assumption | (refine AH.le_put ?_ (by first | assumption | exact (AH.blk_put_ne _ _ (by assumption)).trans (by assumption) | exact AH.none_put (by assumption) | exact AH.none_put (AH.none_put (by assumption)) | (simp only [AH.blk_setTok, AH.tok_put] at *; first | assumption | exact AH.none_put (by assumption)))) | (refine AH.le_setTok ?_ (by first | assumption | exact (AH.blk_put_ne _ _ (by assumption)).trans (by assumption) | exact AH.none_put (by assumption) | exact AH.none_put (AH.none_put (by assumption)) | (simp only [AH.blk_setTok, AH.tok_put] at *; first | assumption | exact AH.none_put (by assumption)))) | (refine AH.le_putM ?_ (by first | assumption | exact (AH.mp_putM_ne _ _ (by assumption)).trans (by assumption) | (simp only [AH.mp_put, AH.mp_setTok] at *; assumption))))) fun i hi => .of_vg hm ?_
  obtain ⟨hi, hge⟩ := hi
  by_cases h3 : i < c.length
  · have hc3 : (i : Int) < (c.length : Int) := by omega
    have herr : (plc l (c.getD i (0, 0)).1 < 0 ∨ plc l (c.getD i (0, 0)).2 < 0) → gaE l c = 7 := fun hh => by
      rw [hgE, if_pos (List.any_eq_true.2 ⟨_, mem_getD (d := (0, 0)) h3, decide_eq_true hh⟩)]
    simp only [hc3, prs_drop h3, F_ref_check, g_ref_check, go_sem, reduceIte, Nat.reduceEqDiff, Nat.reduceAdd, Nat.reduceMul, Nat.reduceSub, reduceCtorEq, Nat.reduceLeDiff, Nat.reduceLT, Int.reduceLT, Int.reduceLE, Int.reduceToNat, Int.reduceAdd, Int.reduceSub, Int.reduceNeg, Int.reduceMul, Int.reduceEq, ← Bool.decide_and, ← Bool.decide_or, ↓tq_n, ↓tq_e, ↓tq_r, ↓bq_n, ↓bq_e, ↓bq_r, ↓rq_n, ↓rq_r, ↓rq_e]
    refine CallG.mk (r_ref_place n1 l u1 _ _) ?_
    by_cases d1 : plc l (c.getD i (0, 0)).1 < 0
    · simp only [d1, F_ref_check, g_ref_check, go_sem, reduceIte, Nat.reduceEqDiff, Nat.reduceAdd, Nat.reduceMul, Nat.reduceSub, reduceCtorEq, Nat.reduceLeDiff, Nat.reduceLT, Int.reduceLT, Int.reduceLE, Int.reduceToNat, Int.reduceAdd, Int.reduceSub, Int.reduceNeg, Int.reduceMul, Int.reduceEq, ← Bool.decide_and, ← Bool.decide_or, ↓tq_n, ↓tq_e, ↓tq_r, ↓bq_n, ↓bq_e, ↓bq_r, ↓rq_n, ↓rq_r, ↓rq_e]
      exact ret_ok (by rw [herr (.inl d1)])
    simp only [d1, hc3, prs_drop h3, F_ref_check, g_ref_check, go_sem, reduceIte, Nat.reduceEqDiff, Nat.reduceAdd, Nat.reduceMul, Nat.reduceSub, reduceCtorEq, Nat.reduceLeDiff, Nat.reduceLT, Int.reduceLT, Int.reduceLE, Int.reduceToNat, Int.reduceAdd, Int.reduceSub, Int.reduceNeg, Int.reduceMul, Int.reduceEq, ← Bool.decide_and, ← Bool.decide_or, ↓tq_n, ↓tq_e, ↓tq_r, ↓bq_n, ↓bq_e, ↓bq_r, ↓rq_n, ↓rq_r, ↓rq_e]
    refine CallG.mk (r_ref_place n1 l u1 _ _) ?_
    by_cases d2 : plc l (c.getD i (0, 0)).2 < 0
    · simp only [d2, F_ref_check, g_ref_check, go_sem, reduceIte, Nat.reduceEqDiff, Nat.reduceAdd, Nat.reduceMul, Nat.reduceSub, reduceCtorEq, Nat.reduceLeDiff, Nat.reduceLT, Int.reduceLT, Int.reduceLE, Int.reduceToNat, Int.reduceAdd, Int.reduceSub, Int.reduceNeg, Int.reduceMul, Int.reduceEq, ← Bool.decide_and, ← Bool.decide_or, ↓tq_n, ↓tq_e, ↓tq_r, ↓bq_n, ↓bq_e, ↓bq_r, ↓rq_n, ↓rq_r, ↓rq_e]
      exact ret_ok (by rw [herr (.inr d2)])
    simp only [d2, F_ref_check, g_ref_check, go_sem, reduceIte, Nat.reduceEqDiff, Nat.reduceAdd, Nat.reduceMul, Nat.reduceSub, reduceCtorEq, Nat.reduceLeDiff, Nat.reduceLT, Int.reduceLT, Int.reduceLE, Int.reduceToNat, Int.reduceAdd, Int.reduceSub, Int.reduceNeg, Int.reduceMul, Int.reduceEq, ← Bool.decide_and, ← Bool.decide_or, ↓tq_n, ↓tq_e, ↓tq_r, ↓bq_n, ↓bq_e, ↓bq_r, ↓rq_n, ↓rq_r, ↓rq_e]
    exact ⟨by rw [inR64]; omega, i + 1, ⟨by omega, all_succ (p := fun j => 0 ≤ plc l (c.getD j (0, 0)).1 ∧ 0 ≤ plc l (c.getD j (0, 0)).2) hge ⟨by omega, by omega⟩⟩, by omega, (GStep.forget (by repeat' first | exact EnvLe.nil _ | refine EnvLe.cons (AV.le.of_eq rfl) ?_ | refine EnvLe.cons (AV.le.undef _) ?_ | refine EnvLe.cons AV.le.unk ?_) (by repeat' first | exact AH.le.refl _ | assumption | (refine AH.le_put ?_ (by first | assumption | exact (AH.blk_put_ne _ _ (by assumption)).trans (by assumption) | exact AH.none_put (by assumption) | exact AH.none_put (AH.none_put (by assumption)) | (simp only [AH.blk_setTok, AH.tok_put] at *; first | assumption | exact AH.none_put (by assumption)))) | (refine AH.le_setTok ?_ (by first | assumption | exact (AH.blk_put_ne _ _ (by assumption)).trans (by assumption) | exact AH.none_put (by assumption) | exact AH.none_put (AH.none_put (by assumption)) | (simp only [AH.blk_setTok, AH.tok_put] at *; first | assumption | exact AH.none_put (by assumption)))) | (refine AH.le_putM ?_ (by first | assumption | exact (AH.mp_putM_ne _ _ (by assumption)).trans (by assumption) | (simp only [AH.mp_put, AH.mp_setTok] at *; assumption)))))⟩
  have h3 : i = c.length := by omega
  subst h3
  have hany : c.any (fun q => decide (plc l q.1 < 0 ∨ plc l q.2 < 0)) = false := by
    have := any_take_false (0, 0) (c := c) (p := fun q : Int × Int => decide (plc l q.1 < 0 ∨ plc l q.2 < 0)) (Nat.le_refl _) (fun j hj => decide_eq_false (by have := hge j hj; omega))
    rwa [List.take_length] at this
  rw [hany, if_neg (by decide)] at hgE
  simp only [F_ref_check, g_ref_check, go_sem, reduceIte, Nat.reduceEqDiff, Nat.reduceAdd, Nat.reduceMul, Nat.reduceSub, reduceCtorEq, Nat.reduceLeDiff, Nat.reduceLT, Int.reduceLT, Int.reduceLE, Int.reduceToNat, Int.reduceAdd, Int.reduceSub, Int.reduceNeg, Int.reduceMul, Int.reduceEq, ← Bool.decide_and, ← Bool.decide_or, ↓tq_n, ↓tq_e, ↓tq_r, ↓bq_n, ↓bq_e, ↓bq_r, ↓rq_n, ↓rq_r, ↓rq_e]
  refine awp_loop (fun i : Nat => [(0, .sl n1 l.length (sms l) u1), (1, .sl n2 c.length (prs c) u2), (7, I i)]) (fun _ => h') (fun i => i ≤ c.length ∧ ∀ j, j < i → (c.getD j (0, 0)).1 ≠ (c.getD j (0, 0)).2) (fun i => c.length - i) 0 ⟨Nat.zero_le _, fun j hj => absurd hj (Nat.not_lt_zero _)⟩ (GStep.forget (by repeat' first | exact EnvLe.nil _ | refine EnvLe.cons (AV.le.of_eq rfl) ?_ | refine EnvLe.cons (AV.le.undef _) ?_ | refine EnvLe.cons AV.le.unk ?_) (by repeat' first | exact AH.le.refl _ | assumption | (refine AH.le_put ?_ (by first | assumption | exact (AH.blk_put_ne _ _ (by assumption)).trans (by assumption) | exact AH.none_put (by assumption) | exact AH.none_put (AH.none_put (by assumption)) | (simp only [AH.blk_setTok, AH.tok_put] at *; first | assumption | exact AH.none_put (by assumption)))) | (refine AH.le_setTok ?_ (by first | assumption | exact (AH.blk_put_ne _ _ (by assumption)).trans (by assumption) | exact AH.none_put (by assumption) | exact AH.none_put (AH.none_put (by assumption)) | (simp only [AH.blk_setTok, AH.tok_put] at *; first | assumption | exact AH.none_put (by assumption)))) | (refine AH.le_putM ?_ (by first | assumption | exact (AH.mp_putM_ne _ _ (by assumption)).trans (by assumption) | (simp only [AH.mp_put, AH.mp_setTok] at *; assumption))))) fun i hi => .of_vg hm ?_
  obtain ⟨hi, hne⟩ := hi
  by_cases h3 : i < c.length
  · have hc3 : (i : Int) < (c.length : Int) := by omega
    by_cases d1 : (c.getD i (0, 0)).1 = (c.getD i (0, 0)).2
    · simp only [hc3, prs_drop h3, decide_eq_true d1, F_ref_check, g_ref_check, go_sem, reduceIte, Nat.reduceEqDiff, Nat.reduceAdd, Nat.reduceMul, Nat.reduceSub, reduceCtorEq, Nat.reduceLeDiff, Nat.reduceLT, Int.reduceLT, Int.reduceLE, Int.reduceToNat, Int.reduceAdd, Int.reduceSub, Int.reduceNeg, Int.reduceMul, Int.reduceEq, ← Bool.decide_and, ← Bool.decide_or, ↓tq_n, ↓tq_e, ↓tq_r, ↓bq_n, ↓bq_e, ↓bq_r, ↓rq_n, ↓rq_r, ↓rq_e]
      exact ret_ok (by rw [hgE, if_pos (List.any_eq_true.2 ⟨_, mem_getD (d := (0, 0)) h3, decide_eq_true (by rw [d1])⟩)])
    · simp only [hc3, prs_drop h3, decide_eq_false d1, F_ref_check, g_ref_check, go_sem, reduceIte, Nat.reduceEqDiff, Nat.reduceAdd, Nat.reduceMul, Nat.reduceSub, reduceCtorEq, Nat.reduceLeDiff, Nat.reduceLT, Int.reduceLT, Int.reduceLE, Int.reduceToNat, Int.reduceAdd, Int.reduceSub, Int.reduceNeg, Int.reduceMul, Int.reduceEq, ← Bool.decide_and, ← Bool.decide_or, ↓tq_n, ↓tq_e, ↓tq_r, ↓bq_n, ↓bq_e, ↓bq_r, ↓rq_n, ↓rq_r, ↓rq_e]
      exact ⟨by rw [inR64]; omega, i + 1, ⟨by omega, all_succ (p := fun j => (c.getD j (0, 0)).1 ≠ (c.getD j (0, 0)).2) hne d1⟩, by omega, (GStep.forget (by repeat' first | exact EnvLe.nil _ | refine EnvLe.cons (AV.le.of_eq rfl) ?_ | refine EnvLe.cons (AV.le.undef _) ?_ | refine EnvLe.cons AV.le.unk ?_) (by repeat' first | exact AH.le.refl _ | assumption | (refine AH.le_put ?_ (by first | assumption | exact (AH.blk_put_ne _ _ (by assumption)).trans (by assumption) | exact AH.none_put (by assumption) | exact AH.none_put (AH.none_put (by assumption)) | (simp only [AH.blk_setTok, AH.tok_put] at *; first | assumption | exact AH.none_put (by assumption)))) | (refine AH.le_setTok ?_ (by first | assumption | exact (AH.blk_put_ne _ _ (by assumption)).trans (by assumption) | exact AH.none_put (by assumption) | exact AH.none_put (AH.none_put (by assumption)) | (simp only [AH.blk_setTok, AH.tok_put] at *; first | assumption | exact AH.none_put (by assumption)))) | (refine AH.le_putM ?_ (by first | assumption | exact (AH.mp_putM_ne _ _ (by assumption)).trans (by assumption) | (simp only [AH.mp_put, AH.mp_setTok] at *; assumption)))))⟩
  have h3 : i = c.length := by omega
  subst h3
  have hany2 : c.any (fun q => decide (plc l q.1 = plc l q.2)) = false := by
    have := any_take_false (0, 0) (c := c) (p := fun q : Int × Int => decide (plc l q.1 = plc l q.2)) (Nat.le_refl _) (fun j hj => decide_eq_false (fun hh => hne j hj ((plc_inj (hge j hj).1 (hge j hj).2).1 hh)))
    rwa [List.take_length] at this
  simp only [F_ref_check, g_ref_check, go_sem, reduceIte, Nat.reduceEqDiff, Nat.reduceAdd, Nat.reduceMul, Nat.reduceSub, reduceCtorEq, Nat.reduceLeDiff, Nat.reduceLT, Int.reduceLT, Int.reduceLE, Int.reduceToNat, Int.reduceAdd, Int.reduceSub, Int.reduceNeg, Int.reduceMul, Int.reduceEq, ← Bool.decide_and, ← Bool.decide_or, ↓tq_n, ↓tq_e, ↓tq_r, ↓bq_n, ↓bq_e, ↓bq_r, ↓rq_n, ↓rq_r, ↓rq_e]
  exact ret_ok (by rw [hgE, hany2]; rfl)

/-- A piece with Ids in place of places. -/
def idT (l : List Spm) (p : T3) : T3 := (p.1, idA l p.2.1, idA l p.2.2)
theorem idT_clP {l : List Spm} {q : Int × Int} (h : 0 ≤ plc l q.1 ∧ 0 ≤ plc l q.2) : idT l (clP l q) = (2, q.1, q.2) := by
  have e1 := plc_some h.1
  have e2 := plc_some h.2
  simp only [idT, clP, idA]
  rw [e1, e2]
set_option maxHeartbeats 4000000 in
theorem r_ref_Proofs (n1 : Bool) (l : List Spm) (u1 : Tail) (n2 : Bool) (c : List (Int × Int)) (u2 : Tail) (hga : gaE l c = 0) (h : AH) : RCall Try.prog n_ref_Proofs [.sl n1 l.length (sms l) u1, .sl n2 c.length (prs c) u2] h (gl (trs ((pcs l c).map (idT l))) ((pcs l c).map (idT l)).length .unk) := by
  obtain ⟨hl24, c1, g3, g4, g5, g6, g7⟩ := ga_ok hga
  refine RCall.of hm cF_ref_Proofs (by simp [g_ref_Proofs]) fun hw h' hl => ?_
  simp only [F_ref_Proofs, g_ref_Proofs, go_sem, reduceIte, Nat.reduceEqDiff, Nat.reduceAdd, Nat.reduceMul, Nat.reduceSub, reduceCtorEq, Nat.reduceLeDiff, Nat.reduceLT, Int.reduceLT, Int.reduceLE, Int.reduceToNat, Int.reduceAdd, Int.reduceSub, Int.reduceNeg, Int.reduceMul, Int.reduceEq, ← Bool.decide_and, ← Bool.decide_or, ↓tq_n, ↓tq_e, ↓tq_r, ↓bq_n, ↓bq_e, ↓bq_r, ↓rq_n, ↓rq_r, ↓rq_e]
  refine awp_tok 5 3 (nl := true) (n := 0) (cs := []) rfl fun t ht => ?_
  refine awp_loop (fun i : Nat => [(0, .sl n1 l.length (sms l) u1), (1, .sl n2 c.length (prs c) u2), (5, gl (trs ((pcS l i).map (idT l))) ((pcS l i).map (idT l)).length (.tok t)), (6, I i)]) (fun i => h'.setTok t ((pcS l i).map (idT l)).length 3) (fun i => i ≤ 2) (fun i => 2 - i) 0 (Nat.zero_le _) (GStep.forget (by repeat' first | exact EnvLe.nil _ | refine EnvLe.cons (AV.le.of_eq rfl) ?_ | refine EnvLe.cons (AV.le.undef _) ?_ | refine EnvLe.cons AV.le.unk ?_) (by repeat' first | exact AH.le.refl _ | assumption | (refine AH.le_put ?_ (by first | assumption | exact (AH.blk_put_ne _ _ (by assumption)).trans (by assumption) | exact AH.none_put (by assumption) | exact AH.none_put (AH.none_put (by assumption)) | (simp only [AH.blk_setTok, AH.tok_put] at *; first | assumption | exact AH.none_put (by assumption)))) | (refine AH.le_setTok ?_ (by first | assumption | exact (AH.blk_put_ne _ _ (by assumption)).trans (by assumption) | exact AH.none_put (by assumption) | exact AH.none_put (AH.none_put (by assumption)) | (simp only [AH.blk_setTok, AH.tok_put] at *; first | assumption | exact AH.none_put (by assumption)))) | (refine AH.le_putM ?_ (by first | assumption | exact (AH.mp_putM_ne _ _ (by assumption)).trans (by assumption) | (simp only [AH.mp_put, AH.mp_setTok] at *; assumption))))) fun i hi => .of_vg hm ?_
  by_cases h3 : i < 2
  · have hc3 : (i : Int) < 2 := by omega
    have hi01 : (i : Int) = 0 ∨ (i : Int) = 1 := by omega
    simp only [hc3, F_ref_Proofs, g_ref_Proofs, go_sem, reduceIte, Nat.reduceEqDiff, Nat.reduceAdd, Nat.reduceMul, Nat.reduceSub, reduceCtorEq, Nat.reduceLeDiff, Nat.reduceLT, Int.reduceLT, Int.reduceLE, Int.reduceToNat, Int.reduceAdd, Int.reduceSub, Int.reduceNeg, Int.reduceMul, Int.reduceEq, ← Bool.decide_and, ← Bool.decide_or, ↓tq_n, ↓tq_e, ↓tq_r, ↓bq_n, ↓bq_e, ↓bq_r, ↓rq_n, ↓rq_r, ↓rq_e]
    refine CallG.mk (r_ref_Before n1 l u1 i hi01 _) ?_
    have ea : arV (fun s t => bfS s t (i : Int)) l = .tup [gl (prs (sdA l (i : Int))) (sdA l (i : Int)).length .unk, I 0] := by unfold arV; rw [if_pos c1]
    rw [ea]
    have hA := sdA_len hl24 (i : Int)
    have hQ := pcS_len hl24 i
    have hAm : ∀ x ∈ sdA l (i : Int), ∃ a k : Nat, a < l.length ∧ k < l.length ∧ x = ((a : Int), (k : Int)) := fun x hx => by
      obtain ⟨a, k, h1, h2, _, h4⟩ := mem_tbK.1 hx
      exact ⟨a, k, h1, h2, h4⟩
    have hsucc : (pcS l (i + 1)).map (idT l) = (pcS l i).map (idT l) ++ ((sdA l (i : Int)).map (kin (i : Int))).map (idT l) := by rw [← List.map_append]; rfl
    obtain ⟨A, hAe⟩ : ∃ A, A = sdA l (i : Int) := ⟨_, rfl⟩
    obtain ⟨Q, hQe⟩ : ∃ Q, Q = (pcS l i).map (idT l) := ⟨_, rfl⟩
    have hQ : Q.length ≤ 576 * i := by rw [hQe, List.length_map]; exact hQ
    rw [← hAe] at hA hsucc hAm ⊢
    rw [← hQe] at hsucc ⊢
    simp only [F_ref_Proofs, g_ref_Proofs, go_sem, reduceIte, Nat.reduceEqDiff, Nat.reduceAdd, Nat.reduceMul, Nat.reduceSub, reduceCtorEq, Nat.reduceLeDiff, Nat.reduceLT, Int.reduceLT, Int.reduceLE, Int.reduceToNat, Int.reduceAdd, Int.reduceSub, Int.reduceNeg, Int.reduceMul, Int.reduceEq, ← Bool.decide_and, ← Bool.decide_or, ↓tq_n, ↓tq_e, ↓tq_r, ↓bq_n, ↓bq_e, ↓bq_r, ↓rq_n, ↓rq_r, ↓rq_e]
    refine awp_loop (fun j : Nat => [(0, .sl n1 l.length (sms l) u1), (1, .sl n2 c.length (prs c) u2), (5, gl (trs (Q ++ ((A.take j).map (kin (i : Int))).map (idT l))) (Q ++ ((A.take j).map (kin (i : Int))).map (idT l)).length (.tok t)), (6, I i), (7, gl (prs A) A.length .unk), (9, I j)]) (fun j => h'.setTok t (Q ++ ((A.take j).map (kin (i : Int))).map (idT l)).length 3) (fun j => j ≤ A.length) (fun j => A.length - j) 0 (Nat.zero_le _) ?_ fun j hj => .of_vg hm ?_
    · simp only [List.take_zero, List.map_nil, List.append_nil]
      exact (GStep.forget (by repeat' first | exact EnvLe.nil _ | refine EnvLe.cons (AV.le.of_eq rfl) ?_ | refine EnvLe.cons (AV.le.undef _) ?_ | refine EnvLe.cons AV.le.unk ?_) (by repeat' first | exact AH.le.refl _ | assumption | (refine AH.le_put ?_ (by first | assumption | exact (AH.blk_put_ne _ _ (by assumption)).trans (by assumption) | exact AH.none_put (by assumption) | exact AH.none_put (AH.none_put (by assumption)) | (simp only [AH.blk_setTok, AH.tok_put] at *; first | assumption | exact AH.none_put (by assumption)))) | (refine AH.le_setTok ?_ (by first | assumption | exact (AH.blk_put_ne _ _ (by assumption)).trans (by assumption) | exact AH.none_put (by assumption) | exact AH.none_put (AH.none_put (by assumption)) | (simp only [AH.blk_setTok, AH.tok_put] at *; first | assumption | exact AH.none_put (by assumption)))) | (refine AH.le_putM ?_ (by first | assumption | exact (AH.mp_putM_ne _ _ (by assumption)).trans (by assumption) | (simp only [AH.mp_put, AH.mp_setTok] at *; assumption)))))
    by_cases h4 : j < A.length
    · have hc4 : (j : Int) < (A.length : Int) := by omega
      obtain ⟨a, k, ha, hk, hak⟩ := hAm _ (mem_getD (d := (0, 0)) h4)
      have e1 : Q ++ ((A.take (j + 1)).map (kin (i : Int))).map (idT l) = (Q ++ ((A.take j).map (kin (i : Int))).map (idT l)) ++ [((i : Int), (l.getD a dS).id, (l.getD k dS).id)] := by
        rw [take_getD (0, 0) h4, List.map_append, List.map_append, List.append_assoc, hak]
        simp [kin, idT, idA]
      have hle : (Q ++ ((A.take j).map (kin (i : Int))).map (idT l)).length ≤ 5000 := by rw [List.length_append, List.length_map, List.length_map, List.length_take]; omega
      have hdr := prs_drop h4
      rw [hak] at hdr
      simp only at hdr
      have hac : (a : Int) < (l.length : Int) := by omega
      have hkc : (k : Int) < (l.length : Int) := by omega
      have ha0 : (0 : Int) ≤ (a : Int) := by omega
      have hk0 : (0 : Int) ≤ (k : Int) := by omega
      obtain ⟨R, hR⟩ : ∃ R, R = Q ++ ((A.take j).map (kin (i : Int))).map (idT l) := ⟨_, rfl⟩
      rw [← hR] at e1 hle ⊢
      simp only [hc4, hdr, hac, hkc, ha0, hk0, sms_drop ha, sms_drop hk, F_ref_Proofs, g_ref_Proofs, go_sem, reduceIte, Nat.reduceEqDiff, Nat.reduceAdd, Nat.reduceMul, Nat.reduceSub, reduceCtorEq, Nat.reduceLeDiff, Nat.reduceLT, Int.reduceLT, Int.reduceLE, Int.reduceToNat, Int.reduceAdd, Int.reduceSub, Int.reduceNeg, Int.reduceMul, Int.reduceEq, ← Bool.decide_and, ← Bool.decide_or, ↓tq_n, ↓tq_e, ↓tq_r, ↓bq_n, ↓bq_e, ↓bq_r, ↓rq_n, ↓rq_r, ↓rq_e]
      refine ⟨by rw [trs_len], by omega, by omega, by rw [inR64]; omega, j + 1, by omega, by omega, ?_⟩
      rw [e1, trs_snoc, List.length_append]
      exact (GStep.forget (by repeat' first | exact EnvLe.nil _ | refine EnvLe.cons (AV.le.of_eq rfl) ?_ | refine EnvLe.cons (AV.le.undef _) ?_ | refine EnvLe.cons AV.le.unk ?_) (by repeat' first | exact AH.le.refl _ | assumption | (refine AH.le_put ?_ (by first | assumption | exact (AH.blk_put_ne _ _ (by assumption)).trans (by assumption) | exact AH.none_put (by assumption) | exact AH.none_put (AH.none_put (by assumption)) | (simp only [AH.blk_setTok, AH.tok_put] at *; first | assumption | exact AH.none_put (by assumption)))) | (refine AH.le_setTok ?_ (by first | assumption | exact (AH.blk_put_ne _ _ (by assumption)).trans (by assumption) | exact AH.none_put (by assumption) | exact AH.none_put (AH.none_put (by assumption)) | (simp only [AH.blk_setTok, AH.tok_put] at *; first | assumption | exact AH.none_put (by assumption)))) | (refine AH.le_putM ?_ (by first | assumption | exact (AH.mp_putM_ne _ _ (by assumption)).trans (by assumption) | (simp only [AH.mp_put, AH.mp_setTok] at *; assumption)))))
    have h4 : j = A.length := by omega
    subst h4
    rw [List.take_length, ← hsucc]
    simp only [F_ref_Proofs, g_ref_Proofs, go_sem, reduceIte, Nat.reduceEqDiff, Nat.reduceAdd, Nat.reduceMul, Nat.reduceSub, reduceCtorEq, Nat.reduceLeDiff, Nat.reduceLT, Int.reduceLT, Int.reduceLE, Int.reduceToNat, Int.reduceAdd, Int.reduceSub, Int.reduceNeg, Int.reduceMul, Int.reduceEq, ← Bool.decide_and, ← Bool.decide_or, ↓tq_n, ↓tq_e, ↓tq_r, ↓bq_n, ↓bq_e, ↓bq_r, ↓rq_n, ↓rq_r, ↓rq_e]
    exact ⟨by rw [inR64]; omega, i + 1, by omega, by omega, (GStep.forget (by repeat' first | exact EnvLe.nil _ | refine EnvLe.cons (AV.le.of_eq rfl) ?_ | refine EnvLe.cons (AV.le.undef _) ?_ | refine EnvLe.cons AV.le.unk ?_) (by repeat' first | exact AH.le.refl _ | assumption | (refine AH.le_put ?_ (by first | assumption | exact (AH.blk_put_ne _ _ (by assumption)).trans (by assumption) | exact AH.none_put (by assumption) | exact AH.none_put (AH.none_put (by assumption)) | (simp only [AH.blk_setTok, AH.tok_put] at *; first | assumption | exact AH.none_put (by assumption)))) | (refine AH.le_setTok ?_ (by first | assumption | exact (AH.blk_put_ne _ _ (by assumption)).trans (by assumption) | exact AH.none_put (by assumption) | exact AH.none_put (AH.none_put (by assumption)) | (simp only [AH.blk_setTok, AH.tok_put] at *; first | assumption | exact AH.none_put (by assumption)))) | (refine AH.le_putM ?_ (by first | assumption | exact (AH.mp_putM_ne _ _ (by assumption)).trans (by assumption) | (simp only [AH.mp_put, AH.mp_setTok] at *; assumption)))))⟩
  have h3 : i = 2 := by omega
  subst h3
  have hQ := pcS_len hl24 2
  obtain ⟨Q, hQe⟩ : ∃ Q, Q = (pcS l 2).map (idT l) := ⟨_, rfl⟩
  have hQ : Q.length ≤ 576 * 2 := by rw [hQe, List.length_map]; exact hQ
  have hpc : (pcs l c).map (idT l) = Q ++ (c.map (clP l)).map (idT l) := by rw [hQe, ← List.map_append]; rfl
  rw [hpc]
  rw [← hQe] at ⊢
  have h22 : ((2 : Nat) : Int) = 2 := rfl
  simp only [h22, F_ref_Proofs, g_ref_Proofs, go_sem, reduceIte, Nat.reduceEqDiff, Nat.reduceAdd, Nat.reduceMul, Nat.reduceSub, reduceCtorEq, Nat.reduceLeDiff, Nat.reduceLT, Int.reduceLT, Int.reduceLE, Int.reduceToNat, Int.reduceAdd, Int.reduceSub, Int.reduceNeg, Int.reduceMul, Int.reduceEq, ← Bool.decide_and, ← Bool.decide_or, ↓tq_n, ↓tq_e, ↓tq_r, ↓bq_n, ↓bq_e, ↓bq_r, ↓rq_n, ↓rq_r, ↓rq_e]
  refine awp_loop (fun i : Nat => [(0, .sl n1 l.length (sms l) u1), (1, .sl n2 c.length (prs c) u2), (5, gl (trs (Q ++ ((c.take i).map (clP l)).map (idT l))) (Q ++ ((c.take i).map (clP l)).map (idT l)).length (.tok t)), (10, I i)]) (fun i => h'.setTok t (Q ++ ((c.take i).map (clP l)).map (idT l)).length 3) (fun i => i ≤ c.length) (fun i => c.length - i) 0 (Nat.zero_le _) ?_ fun i hi => .of_vg hm ?_
  · simp only [List.take_zero, List.map_nil, List.append_nil]
    exact (GStep.forget (by repeat' first | exact EnvLe.nil _ | refine EnvLe.cons (AV.le.of_eq rfl) ?_ | refine EnvLe.cons (AV.le.undef _) ?_ | refine EnvLe.cons AV.le.unk ?_) (by repeat' first | exact AH.le.refl _ | assumption | (refine AH.le_put ?_ (by first | assumption | exact (AH.blk_put_ne _ _ (by assumption)).trans (by assumption) | exact AH.none_put (by assumption) | exact AH.none_put (AH.none_put (by assumption)) | (simp only [AH.blk_setTok, AH.tok_put] at *; first | assumption | exact AH.none_put (by assumption)))) | (refine AH.le_setTok ?_ (by first | assumption | exact (AH.blk_put_ne _ _ (by assumption)).trans (by assumption) | exact AH.none_put (by assumption) | exact AH.none_put (AH.none_put (by assumption)) | (simp only [AH.blk_setTok, AH.tok_put] at *; first | assumption | exact AH.none_put (by assumption)))) | (refine AH.le_putM ?_ (by first | assumption | exact (AH.mp_putM_ne _ _ (by assumption)).trans (by assumption) | (simp only [AH.mp_put, AH.mp_setTok] at *; assumption)))))
  by_cases h3 : i < c.length
  · have hc3 : (i : Int) < (c.length : Int) := by omega
    have e1 : Q ++ ((c.take (i + 1)).map (clP l)).map (idT l) = (Q ++ ((c.take i).map (clP l)).map (idT l)) ++ [(2, (c.getD i (0, 0)).1, (c.getD i (0, 0)).2)] := by
      rw [take_getD (0, 0) h3, List.map_append, List.map_append, List.append_assoc]
      have := idT_clP (g7 _ (mem_getD (d := (0, 0)) h3)).1
      simp only [List.map_cons, List.map_nil, this]
    have hle : (Q ++ ((c.take i).map (clP l)).map (idT l)).length ≤ 5000 := by rw [List.length_append, List.length_map, List.length_map, List.length_take]; omega
    obtain ⟨R, hR⟩ : ∃ R, R = Q ++ ((c.take i).map (clP l)).map (idT l) := ⟨_, rfl⟩
    rw [← hR] at e1 hle ⊢
    simp only [hc3, prs_drop h3, F_ref_Proofs, g_ref_Proofs, go_sem, reduceIte, Nat.reduceEqDiff, Nat.reduceAdd, Nat.reduceMul, Nat.reduceSub, reduceCtorEq, Nat.reduceLeDiff, Nat.reduceLT, Int.reduceLT, Int.reduceLE, Int.reduceToNat, Int.reduceAdd, Int.reduceSub, Int.reduceNeg, Int.reduceMul, Int.reduceEq, ← Bool.decide_and, ← Bool.decide_or, ↓tq_n, ↓tq_e, ↓tq_r, ↓bq_n, ↓bq_e, ↓bq_r, ↓rq_n, ↓rq_r, ↓rq_e]
    refine ⟨by rw [trs_len], by omega, by omega, by rw [inR64]; omega, i + 1, by omega, by omega, ?_⟩
    rw [e1, trs_snoc, List.length_append]
    exact (GStep.forget (by repeat' first | exact EnvLe.nil _ | refine EnvLe.cons (AV.le.of_eq rfl) ?_ | refine EnvLe.cons (AV.le.undef _) ?_ | refine EnvLe.cons AV.le.unk ?_) (by repeat' first | exact AH.le.refl _ | assumption | (refine AH.le_put ?_ (by first | assumption | exact (AH.blk_put_ne _ _ (by assumption)).trans (by assumption) | exact AH.none_put (by assumption) | exact AH.none_put (AH.none_put (by assumption)) | (simp only [AH.blk_setTok, AH.tok_put] at *; first | assumption | exact AH.none_put (by assumption)))) | (refine AH.le_setTok ?_ (by first | assumption | exact (AH.blk_put_ne _ _ (by assumption)).trans (by assumption) | exact AH.none_put (by assumption) | exact AH.none_put (AH.none_put (by assumption)) | (simp only [AH.blk_setTok, AH.tok_put] at *; first | assumption | exact AH.none_put (by assumption)))) | (refine AH.le_putM ?_ (by first | assumption | exact (AH.mp_putM_ne _ _ (by assumption)).trans (by assumption) | (simp only [AH.mp_put, AH.mp_setTok] at *; assumption)))))
  have h3 : i = c.length := by omega
  subst h3
  rw [List.take_length]
  simp only [F_ref_Proofs, g_ref_Proofs, go_sem, reduceIte, Nat.reduceEqDiff, Nat.reduceAdd, Nat.reduceMul, Nat.reduceSub, reduceCtorEq, Nat.reduceLeDiff, Nat.reduceLT, Int.reduceLT, Int.reduceLE, Int.reduceToNat, Int.reduceAdd, Int.reduceSub, Int.reduceNeg, Int.reduceMul, Int.reduceEq, ← Bool.decide_and, ← Bool.decide_or, ↓tq_n, ↓tq_e, ↓tq_r, ↓bq_n, ↓bq_e, ↓bq_r, ↓rq_n, ↓rq_r, ↓rq_e]
  exact ret_gl (by repeat' first | exact AH.le.refl _ | assumption | (refine AH.le_put ?_ (by first | assumption | exact (AH.blk_put_ne _ _ (by assumption)).trans (by assumption) | exact AH.none_put (by assumption) | exact AH.none_put (AH.none_put (by assumption)) | (simp only [AH.blk_setTok, AH.tok_put] at *; first | assumption | exact AH.none_put (by assumption)))) | (refine AH.le_setTok ?_ (by first | assumption | exact (AH.blk_put_ne _ _ (by assumption)).trans (by assumption) | exact AH.none_put (by assumption) | exact AH.none_put (AH.none_put (by assumption)) | (simp only [AH.blk_setTok, AH.tok_put] at *; first | assumption | exact AH.none_put (by assumption)))) | (refine AH.le_putM ?_ (by first | assumption | exact (AH.mp_putM_ne _ _ (by assumption)).trans (by assumption) | (simp only [AH.mp_put, AH.mp_setTok] at *; assumption))))
end Go.Proofs.Ytndcbompcnlhmaa
