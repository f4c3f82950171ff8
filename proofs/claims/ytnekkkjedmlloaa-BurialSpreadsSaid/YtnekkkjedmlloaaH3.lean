/- Calls of functions of this seat's program: lists of hoards, first years. No condition. -/
import Derived.Test.YtnekkkjedmlloaaH2
namespace Go.Proofs.Ytnekkkjedmlloaa
open Go Go.Abs
set_option linter.unusedSimpArgs false
set_option linter.unusedVariables false
set_option maxRecDepth 20000

def lOK (l : List Hd) (i : Nat) : Prop := Hv (l.getD i dH) ∧ ∀ k, k < i → (l.getD k dH).id ≠ (l.getD i dH).id
instance (l : List Hd) (i : Nat) : Decidable (lOK l i) := by unfold lOK; infer_instance
/-- Valid hoards with different numbers. -/
def VLs (l : List Hd) : Prop := ∀ i, i < l.length → lOK l i
instance (l : List Hd) : Decidable (VLs l) := by unfold VLs; infer_instance
def chk (l : List Hd) : Int := if 8 < l.length then 6 else if VLs l then 0 else 1
theorem not_vls {l : List Hd} {i : Nat} (hi : i < l.length) (h : ¬ lOK l i) : ¬ VLs l := fun hv => h (hv i hi)
def ids (l : List Hd) (i : Nat) : List Int := (l.take i).map Hd.id
theorem ids_succ {l : List Hd} {i : Nat} (h : i < l.length) : ids l (i + 1) = ids l i ++ [(l.getD i dH).id] := take_map_succ Hd.id dH h
theorem mem_ids {l : List Hd} {x : Int} : ∀ {i : Nat}, i ≤ l.length → (x ∈ ids l i ↔ ∃ k, k < i ∧ (l.getD k dH).id = x) := by
  intro i
  induction i with
  | zero => intro _; simp [ids]
  | succ i ih =>
    intro h
    rw [ids_succ (by omega), List.mem_append, ih (by omega), List.mem_singleton]
    constructor
    · rintro (⟨k, h1, h2⟩ | rfl)
      · exact ⟨k, by omega, h2⟩
      · exact ⟨i, by omega, rfl⟩
    · rintro ⟨k, h1, h2⟩
      rcases lt_succ_cases h1 with h3 | rfl
      · exact .inl ⟨k, h3, h2⟩
      · exact .inr h2.symm

theorem r_burial_check (nl : Bool) (l : List Hd) (tl : Tail) (h : AH) : RCall Try.prog n_burial_check [.sl nl l.length (hds l) tl] h (I (chk l)) := by
  refine RCall.of hm cF_burial_check (by simp [g_burial_check]) fun hw h' hl => ?_
  by_cases h0 : 8 < l.length
  · have hc : (8 : Int) < (l.length : Int) := by omega
    simp only [hc, F_burial_check, g_burial_check, go_sem, reduceIte, Nat.reduceEqDiff, Nat.reduceAdd, Nat.reduceMul, Nat.reduceSub, reduceCtorEq, Nat.reduceLeDiff, Nat.reduceLT, Int.reduceLT, Int.reduceLE, Int.reduceToNat, Int.reduceAdd, Int.reduceSub, Int.reduceNeg, Int.reduceMul, Int.reduceEq, ← Bool.decide_and, ← Bool.decide_or, ↓tq_n, ↓tq_e, ↓tq_r, ↓bq_n, ↓bq_e, ↓bq_r, ↓rq_n, ↓rq_r, ↓rq_e]
    exact ret_ok (by simp [chk, h0])
  have hc : ¬ (8 : Int) < (l.length : Int) := by omega
  simp only [hc, F_burial_check, g_burial_check, go_sem, reduceIte, Nat.reduceEqDiff, Nat.reduceAdd, Nat.reduceMul, Nat.reduceSub, reduceCtorEq, Nat.reduceLeDiff, Nat.reduceLT, Int.reduceLT, Int.reduceLE, Int.reduceToNat, Int.reduceAdd, Int.reduceSub, Int.reduceNeg, Int.reduceMul, Int.reduceEq, ← Bool.decide_and, ← Bool.decide_or, ↓tq_n, ↓tq_e, ↓tq_r, ↓bq_n, ↓bq_e, ↓bq_r, ↓rq_n, ↓rq_r, ↓rq_e]
  refine NewMG.mk fun b hb => ?_
  simp only [F_burial_check, g_burial_check, go_sem, reduceIte, Nat.reduceEqDiff, Nat.reduceAdd, Nat.reduceMul, Nat.reduceSub, reduceCtorEq, Nat.reduceLeDiff, Nat.reduceLT, Int.reduceLT, Int.reduceLE, Int.reduceToNat, Int.reduceAdd, Int.reduceSub, Int.reduceNeg, Int.reduceMul, Int.reduceEq, ← Bool.decide_and, ← Bool.decide_or, ↓tq_n, ↓tq_e, ↓tq_r, ↓bq_n, ↓bq_e, ↓bq_r, ↓rq_n, ↓rq_r, ↓rq_e]
  refine awp_loop (fun i : Nat => [(3, .map b), (10, .sl nl l.length (hds l) tl), (11, I l.length), (12, I i)]) (fun i => h'.putM b (keys (ids l i))) (fun i => i ≤ l.length ∧ ∀ j, j < i → lOK l j) (fun i => l.length - i) 0 ⟨Nat.zero_le _, fun j hj => absurd hj (Nat.not_lt_zero _)⟩ ?_ fun i hi => .of_vg hm ?_
  · exact (GStep.forget (by repeat' first | exact EnvLe.nil _ | refine EnvLe.cons (AV.le.of_eq rfl) ?_ | refine EnvLe.cons (AV.le.undef _) ?_ | refine EnvLe.cons AV.le.unk ?_) (by repeat' first | exact AH.le.refl _ | assumption | (refine AH.le_put ?_ (by first | assumption | exact (AH.blk_put_ne _ _ (by assumption)).trans (by assumption) | exact AH.none_put (by assumption) | exact AH.none_put (AH.none_put (by assumption)) | (simp only [AH.blk_setTok, AH.tok_put] at *; first | assumption | exact AH.none_put (by assumption)))) | (refine AH.le_setTok ?_ (by first | assumption | exact (AH.blk_put_ne _ _ (by assumption)).trans (by assumption) | exact AH.none_put (by assumption) | exact AH.none_put (AH.none_put (by assumption)) | (simp only [AH.blk_setTok, AH.tok_put] at *; first | assumption | exact AH.none_put (by assumption)))) | (refine AH.le_putM ?_ (by first | assumption | exact (AH.mp_putM_ne _ _ (by assumption)).trans (by assumption) | (simp only [AH.mp_put, AH.mp_setTok] at *; assumption)))))
  obtain ⟨h1, h2⟩ := hi
  by_cases h3 : i < l.length
  · have hc3 : (i : Int) < (l.length : Int) := by omega
    have no : ¬ lOK l i → chk l = 1 := fun hn => by unfold chk; rw [if_neg h0, if_neg (not_vls h3 hn)]
    have hmem := mem_ids (x := (l.getD i dH).id) h1
    have hsucc := ids_succ h3
    simp only [hc3, hds_drop h3, F_burial_check, g_burial_check, go_sem, reduceIte, Nat.reduceEqDiff, Nat.reduceAdd, Nat.reduceMul, Nat.reduceSub, reduceCtorEq, Nat.reduceLeDiff, Nat.reduceLT, Int.reduceLT, Int.reduceLE, Int.reduceToNat, Int.reduceAdd, Int.reduceSub, Int.reduceNeg, Int.reduceMul, Int.reduceEq, ← Bool.decide_and, ← Bool.decide_or, ↓tq_n, ↓tq_e, ↓tq_r, ↓bq_n, ↓bq_e, ↓bq_r, ↓rq_n, ↓rq_r, ↓rq_e]
    refine CallG.mk (r_hoard_Valid (l.getD i dH) _) ?_
    by_cases h4 : Hv (l.getD i dH)
    case neg =>
      simp only [decide_eq_false h4, F_burial_check, g_burial_check, go_sem, reduceIte, Nat.reduceEqDiff, Nat.reduceAdd, Nat.reduceMul, Nat.reduceSub, reduceCtorEq, Nat.reduceLeDiff, Nat.reduceLT, Int.reduceLT, Int.reduceLE, Int.reduceToNat, Int.reduceAdd, Int.reduceSub, Int.reduceNeg, Int.reduceMul, Int.reduceEq, ← Bool.decide_and, ← Bool.decide_or, ↓tq_n, ↓tq_e, ↓tq_r, ↓bq_n, ↓bq_e, ↓bq_r, ↓rq_n, ↓rq_r, ↓rq_e]
      exact ret_hb (AH.le_putM (.refl _) hb) (by rw [no (fun hc => h4 hc.1)])
    by_cases h5 : (l.getD i dH).id ∈ ids l i
    · simp only [decide_eq_true h4, find_keys, h5, F_burial_check, g_burial_check, go_sem, reduceIte, Nat.reduceEqDiff, Nat.reduceAdd, Nat.reduceMul, Nat.reduceSub, reduceCtorEq, Nat.reduceLeDiff, Nat.reduceLT, Int.reduceLT, Int.reduceLE, Int.reduceToNat, Int.reduceAdd, Int.reduceSub, Int.reduceNeg, Int.reduceMul, Int.reduceEq, ← Bool.decide_and, ← Bool.decide_or, ↓tq_n, ↓tq_e, ↓tq_r, ↓bq_n, ↓bq_e, ↓bq_r, ↓rq_n, ↓rq_r, ↓rq_e]
      exact ret_hb (AH.le_putM (.refl _) hb) (by rw [no (fun hc => by obtain ⟨k, k1, k2⟩ := hmem.1 h5; exact hc.2 k k1 k2)])
    · simp only [decide_eq_true h4, find_keys, h5, upd_keys h5, ← hsucc, F_burial_check, g_burial_check, go_sem, reduceIte, Nat.reduceEqDiff, Nat.reduceAdd, Nat.reduceMul, Nat.reduceSub, reduceCtorEq, Nat.reduceLeDiff, Nat.reduceLT, Int.reduceLT, Int.reduceLE, Int.reduceToNat, Int.reduceAdd, Int.reduceSub, Int.reduceNeg, Int.reduceMul, Int.reduceEq, ← Bool.decide_and, ← Bool.decide_or, ↓tq_n, ↓tq_e, ↓tq_r, ↓bq_n, ↓bq_e, ↓bq_r, ↓rq_n, ↓rq_r, ↓rq_e]
      exact ⟨by rw [inR64]; omega, i + 1, ⟨by omega, all_succ h2 ⟨h4, fun k hk hh => h5 (hmem.2 ⟨k, hk, hh⟩)⟩⟩, by omega, (GStep.forget (by repeat' first | exact EnvLe.nil _ | refine EnvLe.cons (AV.le.of_eq rfl) ?_ | refine EnvLe.cons (AV.le.undef _) ?_ | refine EnvLe.cons AV.le.unk ?_) (by repeat' first | exact AH.le.refl _ | assumption | (refine AH.le_put ?_ (by first | assumption | exact (AH.blk_put_ne _ _ (by assumption)).trans (by assumption) | exact AH.none_put (by assumption) | exact AH.none_put (AH.none_put (by assumption)) | (simp only [AH.blk_setTok, AH.tok_put] at *; first | assumption | exact AH.none_put (by assumption)))) | (refine AH.le_setTok ?_ (by first | assumption | exact (AH.blk_put_ne _ _ (by assumption)).trans (by assumption) | exact AH.none_put (by assumption) | exact AH.none_put (AH.none_put (by assumption)) | (simp only [AH.blk_setTok, AH.tok_put] at *; first | assumption | exact AH.none_put (by assumption)))) | (refine AH.le_putM ?_ (by first | assumption | exact (AH.mp_putM_ne _ _ (by assumption)).trans (by assumption) | (simp only [AH.mp_put, AH.mp_setTok] at *; assumption)))))⟩
  · have h3 : i = l.length := by omega
    subst h3
    simp only [F_burial_check, g_burial_check, go_sem, reduceIte, Nat.reduceEqDiff, Nat.reduceAdd, Nat.reduceMul, Nat.reduceSub, reduceCtorEq, Nat.reduceLeDiff, Nat.reduceLT, Int.reduceLT, Int.reduceLE, Int.reduceToNat, Int.reduceAdd, Int.reduceSub, Int.reduceNeg, Int.reduceMul, Int.reduceEq, ← Bool.decide_and, ← Bool.decide_or, ↓tq_n, ↓tq_e, ↓tq_r, ↓bq_n, ↓bq_e, ↓bq_r, ↓rq_n, ↓rq_r, ↓rq_e]
    have hv : VLs l := h2
    exact ret_hb (AH.le_putM (.refl _) hb) (by simp [chk, h0, hv])

theorem r_ref_Check (nl : Bool) (l : List Hd) (tl : Tail) (h : AH) : RCall Try.prog n_ref_Check [.sl nl l.length (hds l) tl] h (I (chk l)) := by
  refine RCall.of hm cF_ref_Check (by simp [g_ref_Check]) fun hw h' hl => ?_
  by_cases h0 : 8 < l.length
  · have hc : (8 : Int) < (l.length : Int) := by omega
    simp only [hc, F_ref_Check, g_ref_Check, go_sem, reduceIte, Nat.reduceEqDiff, Nat.reduceAdd, Nat.reduceMul, Nat.reduceSub, reduceCtorEq, Nat.reduceLeDiff, Nat.reduceLT, Int.reduceLT, Int.reduceLE, Int.reduceToNat, Int.reduceAdd, Int.reduceSub, Int.reduceNeg, Int.reduceMul, Int.reduceEq, ← Bool.decide_and, ← Bool.decide_or, ↓tq_n, ↓tq_e, ↓tq_r, ↓bq_n, ↓bq_e, ↓bq_r, ↓rq_n, ↓rq_r, ↓rq_e]
    exact ret_ok (by simp [chk, h0])
  have hc : ¬ (8 : Int) < (l.length : Int) := by omega
  simp only [hc, F_ref_Check, g_ref_Check, go_sem, reduceIte, Nat.reduceEqDiff, Nat.reduceAdd, Nat.reduceMul, Nat.reduceSub, reduceCtorEq, Nat.reduceLeDiff, Nat.reduceLT, Int.reduceLT, Int.reduceLE, Int.reduceToNat, Int.reduceAdd, Int.reduceSub, Int.reduceNeg, Int.reduceMul, Int.reduceEq, ← Bool.decide_and, ← Bool.decide_or, ↓tq_n, ↓tq_e, ↓tq_r, ↓bq_n, ↓bq_e, ↓bq_r, ↓rq_n, ↓rq_r, ↓rq_e]
  refine awp_loop (fun i : Nat => [(0, .sl nl l.length (hds l) tl), (3, I i)]) (fun i => h') (fun i => i ≤ l.length ∧ ∀ j, j < i → lOK l j) (fun i => l.length - i) 0 ⟨Nat.zero_le _, fun j hj => absurd hj (Nat.not_lt_zero _)⟩ (GStep.forget (by repeat' first | exact EnvLe.nil _ | refine EnvLe.cons (AV.le.of_eq rfl) ?_ | refine EnvLe.cons (AV.le.undef _) ?_ | refine EnvLe.cons AV.le.unk ?_) (by repeat' first | exact AH.le.refl _ | assumption | (refine AH.le_put ?_ (by first | assumption | exact (AH.blk_put_ne _ _ (by assumption)).trans (by assumption) | exact AH.none_put (by assumption) | exact AH.none_put (AH.none_put (by assumption)) | (simp only [AH.blk_setTok, AH.tok_put] at *; first | assumption | exact AH.none_put (by assumption)))) | (refine AH.le_setTok ?_ (by first | assumption | exact (AH.blk_put_ne _ _ (by assumption)).trans (by assumption) | exact AH.none_put (by assumption) | exact AH.none_put (AH.none_put (by assumption)) | (simp only [AH.blk_setTok, AH.tok_put] at *; first | assumption | exact AH.none_put (by assumption)))) | (refine AH.le_putM ?_ (by first | assumption | exact (AH.mp_putM_ne _ _ (by assumption)).trans (by assumption) | (simp only [AH.mp_put, AH.mp_setTok] at *; assumption))))) fun i hi => .of_vg hm ?_
  obtain ⟨h1, h2⟩ := hi
  by_cases h3 : i < l.length
  · have hc3 : (i : Int) < (l.length : Int) := by omega
    have no : ¬ lOK l i → chk l = 1 := fun hn => by unfold chk; rw [if_neg h0, if_neg (not_vls h3 hn)]
    simp only [hc3, hds_drop h3, F_ref_Check, g_ref_Check, go_sem, reduceIte, Nat.reduceEqDiff, Nat.reduceAdd, Nat.reduceMul, Nat.reduceSub, reduceCtorEq, Nat.reduceLeDiff, Nat.reduceLT, Int.reduceLT, Int.reduceLE, Int.reduceToNat, Int.reduceAdd, Int.reduceSub, Int.reduceNeg, Int.reduceMul, Int.reduceEq, ← Bool.decide_and, ← Bool.decide_or, ↓tq_n, ↓tq_e, ↓tq_r, ↓bq_n, ↓bq_e, ↓bq_r, ↓rq_n, ↓rq_r, ↓rq_e]
    refine CallG.mk (r_base_Hoard (l.getD i dH) _) ?_
    by_cases h4 : Hv (l.getD i dH)
    case neg =>
      simp only [decide_eq_false h4, F_ref_Check, g_ref_Check, go_sem, reduceIte, Nat.reduceEqDiff, Nat.reduceAdd, Nat.reduceMul, Nat.reduceSub, reduceCtorEq, Nat.reduceLeDiff, Nat.reduceLT, Int.reduceLT, Int.reduceLE, Int.reduceToNat, Int.reduceAdd, Int.reduceSub, Int.reduceNeg, Int.reduceMul, Int.reduceEq, ← Bool.decide_and, ← Bool.decide_or, ↓tq_n, ↓tq_e, ↓tq_r, ↓bq_n, ↓bq_e, ↓bq_r, ↓rq_n, ↓rq_r, ↓rq_e]
      exact ret_ok (by rw [no (fun hc => h4 hc.1)])
    simp only [decide_eq_true h4, F_ref_Check, g_ref_Check, go_sem, reduceIte, Nat.reduceEqDiff, Nat.reduceAdd, Nat.reduceMul, Nat.reduceSub, reduceCtorEq, Nat.reduceLeDiff, Nat.reduceLT, Int.reduceLT, Int.reduceLE, Int.reduceToNat, Int.reduceAdd, Int.reduceSub, Int.reduceNeg, Int.reduceMul, Int.reduceEq, ← Bool.decide_and, ← Bool.decide_or, ↓tq_n, ↓tq_e, ↓tq_r, ↓bq_n, ↓bq_e, ↓bq_r, ↓rq_n, ↓rq_r, ↓rq_e]
    refine awp_loop (fun k : Nat => [(0, .sl nl l.length (hds l) tl), (3, I i), (4, I k)]) (fun _ => h') (fun k => k ≤ i ∧ ∀ j, j < k → (l.getD j dH).id ≠ (l.getD i dH).id) (fun k => i - k) 0 ⟨Nat.zero_le _, fun j hj => absurd hj (Nat.not_lt_zero _)⟩ (GStep.forget (by repeat' first | exact EnvLe.nil _ | refine EnvLe.cons (AV.le.of_eq rfl) ?_ | refine EnvLe.cons (AV.le.undef _) ?_ | refine EnvLe.cons AV.le.unk ?_) (by repeat' first | exact AH.le.refl _ | assumption | (refine AH.le_put ?_ (by first | assumption | exact (AH.blk_put_ne _ _ (by assumption)).trans (by assumption) | exact AH.none_put (by assumption) | exact AH.none_put (AH.none_put (by assumption)) | (simp only [AH.blk_setTok, AH.tok_put] at *; first | assumption | exact AH.none_put (by assumption)))) | (refine AH.le_setTok ?_ (by first | assumption | exact (AH.blk_put_ne _ _ (by assumption)).trans (by assumption) | exact AH.none_put (by assumption) | exact AH.none_put (AH.none_put (by assumption)) | (simp only [AH.blk_setTok, AH.tok_put] at *; first | assumption | exact AH.none_put (by assumption)))) | (refine AH.le_putM ?_ (by first | assumption | exact (AH.mp_putM_ne _ _ (by assumption)).trans (by assumption) | (simp only [AH.mp_put, AH.mp_setTok] at *; assumption))))) fun k hk => .of_vg hm ?_
    obtain ⟨k1, k2⟩ := hk
    by_cases k3 : k < i
    · have kc : (k : Int) < (i : Int) := by omega
      have kc2 : (k : Int) < (l.length : Int) := by omega
      simp only [hc3, kc, kc2, hds_drop h3, hds_drop (show k < l.length by omega), F_ref_Check, g_ref_Check, go_sem, reduceIte, Nat.reduceEqDiff, Nat.reduceAdd, Nat.reduceMul, Nat.reduceSub, reduceCtorEq, Nat.reduceLeDiff, Nat.reduceLT, Int.reduceLT, Int.reduceLE, Int.reduceToNat, Int.reduceAdd, Int.reduceSub, Int.reduceNeg, Int.reduceMul, Int.reduceEq, ← Bool.decide_and, ← Bool.decide_or, ↓tq_n, ↓tq_e, ↓tq_r, ↓bq_n, ↓bq_e, ↓bq_r, ↓rq_n, ↓rq_r, ↓rq_e]
      refine ⟨fun h5 => ?_, fun h5 => ⟨by rw [inR64]; omega, k + 1, ⟨by omega, all_succ k2 h5⟩, by omega, (GStep.forget (by repeat' first | exact EnvLe.nil _ | refine EnvLe.cons (AV.le.of_eq rfl) ?_ | refine EnvLe.cons (AV.le.undef _) ?_ | refine EnvLe.cons AV.le.unk ?_) (by repeat' first | exact AH.le.refl _ | assumption | (refine AH.le_put ?_ (by first | assumption | exact (AH.blk_put_ne _ _ (by assumption)).trans (by assumption) | exact AH.none_put (by assumption) | exact AH.none_put (AH.none_put (by assumption)) | (simp only [AH.blk_setTok, AH.tok_put] at *; first | assumption | exact AH.none_put (by assumption)))) | (refine AH.le_setTok ?_ (by first | assumption | exact (AH.blk_put_ne _ _ (by assumption)).trans (by assumption) | exact AH.none_put (by assumption) | exact AH.none_put (AH.none_put (by assumption)) | (simp only [AH.blk_setTok, AH.tok_put] at *; first | assumption | exact AH.none_put (by assumption)))) | (refine AH.le_putM ?_ (by first | assumption | exact (AH.mp_putM_ne _ _ (by assumption)).trans (by assumption) | (simp only [AH.mp_put, AH.mp_setTok] at *; assumption)))))⟩⟩
      exact ret_ok (by rw [no (fun hc => hc.2 k k3 h5)])
    · have k3 : k = i := by omega
      subst k3
      simp only [F_ref_Check, g_ref_Check, go_sem, reduceIte, Nat.reduceEqDiff, Nat.reduceAdd, Nat.reduceMul, Nat.reduceSub, reduceCtorEq, Nat.reduceLeDiff, Nat.reduceLT, Int.reduceLT, Int.reduceLE, Int.reduceToNat, Int.reduceAdd, Int.reduceSub, Int.reduceNeg, Int.reduceMul, Int.reduceEq, ← Bool.decide_and, ← Bool.decide_or, ↓tq_n, ↓tq_e, ↓tq_r, ↓bq_n, ↓bq_e, ↓bq_r, ↓rq_n, ↓rq_r, ↓rq_e]
      exact ⟨by rw [inR64]; omega, k + 1, ⟨by omega, all_succ h2 ⟨h4, k2⟩⟩, by omega, (GStep.forget (by repeat' first | exact EnvLe.nil _ | refine EnvLe.cons (AV.le.of_eq rfl) ?_ | refine EnvLe.cons (AV.le.undef _) ?_ | refine EnvLe.cons AV.le.unk ?_) (by repeat' first | exact AH.le.refl _ | assumption | (refine AH.le_put ?_ (by first | assumption | exact (AH.blk_put_ne _ _ (by assumption)).trans (by assumption) | exact AH.none_put (by assumption) | exact AH.none_put (AH.none_put (by assumption)) | (simp only [AH.blk_setTok, AH.tok_put] at *; first | assumption | exact AH.none_put (by assumption)))) | (refine AH.le_setTok ?_ (by first | assumption | exact (AH.blk_put_ne _ _ (by assumption)).trans (by assumption) | exact AH.none_put (by assumption) | exact AH.none_put (AH.none_put (by assumption)) | (simp only [AH.blk_setTok, AH.tok_put] at *; first | assumption | exact AH.none_put (by assumption)))) | (refine AH.le_putM ?_ (by first | assumption | exact (AH.mp_putM_ne _ _ (by assumption)).trans (by assumption) | (simp only [AH.mp_put, AH.mp_setTok] at *; assumption)))))⟩
  · have h3 : i = l.length := by omega
    subst h3
    simp only [F_ref_Check, g_ref_Check, go_sem, reduceIte, Nat.reduceEqDiff, Nat.reduceAdd, Nat.reduceMul, Nat.reduceSub, reduceCtorEq, Nat.reduceLeDiff, Nat.reduceLT, Int.reduceLT, Int.reduceLE, Int.reduceToNat, Int.reduceAdd, Int.reduceSub, Int.reduceNeg, Int.reduceMul, Int.reduceEq, ← Bool.decide_and, ← Bool.decide_or, ↓tq_n, ↓tq_e, ↓tq_r, ↓bq_n, ↓bq_e, ↓bq_r, ↓rq_n, ↓rq_r, ↓rq_e]
    have hv : VLs l := h2
    exact ret_ok (by simp [chk, h0, hv])

/-- The first years of the latest types of the first hoards. -/
def yl (l : List Hd) (t : List (Int × Int)) : Nat → Option (List Int)
  | 0 => some []
  | i + 1 => match yl l t i, latE (l.getD i dH) t with
    | some ys, some s => some (ys ++ [s.2])
    | _, _ => none
theorem yl_len {l : List Hd} {t : List (Int × Int)} : ∀ {i : Nat} {ys : List Int}, yl l t i = some ys → ys.length = i := by
  intro i
  induction i with
  | zero => intro ys h; simp [yl] at h; subst h; rfl
  | succ i ih =>
    intro ys h
    rw [yl] at h
    split at h
    · rename_i zs s h1 h2
      cases h
      rw [List.length_append, ih h1]; rfl
    · cases h
theorem yl_step {l : List Hd} {t : List (Int × Int)} {i : Nat} {ys : List Int} {s : Int × Int} (h : yl l t i = some ys) (hs : latE (l.getD i dH) t = some s) : yl l t (i + 1) = some (ys ++ [s.2]) := by rw [yl, h, hs]
theorem yl_none {l : List Hd} {t : List (Int × Int)} {i : Nat} (h : yl l t i = none) : ∀ d, yl l t (i + d) = none := by
  intro d
  induction d with
  | zero => exact h
  | succ d ih => rw [← Nat.add_assoc, yl, ih]
theorem yl_stop {l : List Hd} {t : List (Int × Int)} {i : Nat} (hi : i < l.length) (h : latE (l.getD i dH) t = none) : yl l t l.length = none := by
  have h1 : yl l t (i + 1) = none := by
    rw [yl, h]
    split
    · rename_i h1 h2; cases h2
    · rfl
  have := yl_none h1 (l.length - (i + 1))
  rwa [show i + 1 + (l.length - (i + 1)) = l.length by omega] at this
/-- The error of a list with issues, and its years. -/
def yq (l : List Hd) (t : List (Int × Int)) : Int := if chk l ≠ 0 then chk l else if Ls (-9999) 9999 t then (match yl l t l.length with | some _ => 0 | none => 7) else 1
def ys (l : List Hd) (t : List (Int × Int)) : List Int := if chk l = 0 ∧ Ls (-9999) 9999 t then (yl l t l.length).getD [] else []
def yearsV (l : List Hd) (t : List (Int × Int)) : AV := if yq l t = 0 then .tup [gl (i64s (ys l t)) l.length .unk, I 0] else .tup [.sl true 0 [] .full, I (yq l t)]
theorem chk_vls {l : List Hd} (h : chk l = 0) : l.length ≤ 8 ∧ VLs l := by
  unfold chk at h
  split at h
  · cases h
  · split at h
    · rename_i h1 h2; exact ⟨by omega, h2⟩
    · cases h
theorem lat_val {x : Hd} {t : List (Int × Int)} {s : Int × Int} (hv : Hv x) (h : latE x t = some s) : s.1 ≠ 0 ∧ val t s.1 = some s.2 := by
  have hc : ∀ j, j < x.coins.length → (x.coins.getD j (0, 0)).1 ≠ 0 := fun j hj => by have := (hv.2.2.1 j hj).1; omega
  have := (lat_some hc (Nat.le_refl _) h).2 (by have := hv.2.1; omega)
  exact ⟨this.1, this.2.1⟩
theorem val_idx {t : List (Int × Int)} {k y : Int} (h : val t k = some y) : 0 ≤ idx t k ∧ (idx t k).toNat < t.length ∧ (t.getD (idx t k).toNat (0, 0)).2 = y := by
  unfold val at h
  split at h
  · rename_i hi
    exact ⟨hi, (idx_spec hi).1, by simpa using h⟩
  · cases h

theorem r_burial_latest (n1 : Bool) (l : List Hd) (u1 : Tail) (n2 : Bool) (t : List (Int × Int)) (u2 : Tail) (h : AH) :
    RCall Try.prog n_burial_latest [.sl n1 l.length (hds l) u1, .sl n2 t.length (prs t) u2] h (yearsV l t) := by
  refine RCall.of hm cF_burial_latest (by simp [g_burial_latest]) fun hw h' hl => ?_
  simp only [F_burial_latest, g_burial_latest, go_sem, reduceIte, Nat.reduceEqDiff, Nat.reduceAdd, Nat.reduceMul, Nat.reduceSub, reduceCtorEq, Nat.reduceLeDiff, Nat.reduceLT, Int.reduceLT, Int.reduceLE, Int.reduceToNat, Int.reduceAdd, Int.reduceSub, Int.reduceNeg, Int.reduceMul, Int.reduceEq, ← Bool.decide_and, ← Bool.decide_or, ↓tq_n, ↓tq_e, ↓tq_r, ↓bq_n, ↓bq_e, ↓bq_r, ↓rq_n, ↓rq_r, ↓rq_e]
  refine CallG.mk (r_burial_check n1 l u1 _) ?_
  by_cases h1 : chk l = 0
  case neg =>
    simp only [h1, F_burial_latest, g_burial_latest, go_sem, reduceIte, Nat.reduceEqDiff, Nat.reduceAdd, Nat.reduceMul, Nat.reduceSub, reduceCtorEq, Nat.reduceLeDiff, Nat.reduceLT, Int.reduceLT, Int.reduceLE, Int.reduceToNat, Int.reduceAdd, Int.reduceSub, Int.reduceNeg, Int.reduceMul, Int.reduceEq, ← Bool.decide_and, ← Bool.decide_or, ↓tq_n, ↓tq_e, ↓tq_r, ↓bq_n, ↓bq_e, ↓bq_r, ↓rq_n, ↓rq_r, ↓rq_e]
    exact ret_ok (by simp [yearsV, yq, h1])
  simp only [h1, F_burial_latest, g_burial_latest, go_sem, reduceIte, Nat.reduceEqDiff, Nat.reduceAdd, Nat.reduceMul, Nat.reduceSub, reduceCtorEq, Nat.reduceLeDiff, Nat.reduceLT, Int.reduceLT, Int.reduceLE, Int.reduceToNat, Int.reduceAdd, Int.reduceSub, Int.reduceNeg, Int.reduceMul, Int.reduceEq, ← Bool.decide_and, ← Bool.decide_or, ↓tq_n, ↓tq_e, ↓tq_r, ↓bq_n, ↓bq_e, ↓bq_r, ↓rq_n, ↓rq_r, ↓rq_e]
  refine CallG.mk (r_burial_issues n2 t u2 _) ?_
  by_cases h2 : Ls (-9999) 9999 t
  case neg =>
    simp only [decide_eq_false h2, F_burial_latest, g_burial_latest, go_sem, reduceIte, Nat.reduceEqDiff, Nat.reduceAdd, Nat.reduceMul, Nat.reduceSub, reduceCtorEq, Nat.reduceLeDiff, Nat.reduceLT, Int.reduceLT, Int.reduceLE, Int.reduceToNat, Int.reduceAdd, Int.reduceSub, Int.reduceNeg, Int.reduceMul, Int.reduceEq, ← Bool.decide_and, ← Bool.decide_or, ↓tq_n, ↓tq_e, ↓tq_r, ↓bq_n, ↓bq_e, ↓bq_r, ↓rq_n, ↓rq_r, ↓rq_e]
    exact ret_ok (by simp [yearsV, yq, h1, h2])
  simp only [decide_eq_true h2, F_burial_latest, g_burial_latest, go_sem, reduceIte, Nat.reduceEqDiff, Nat.reduceAdd, Nat.reduceMul, Nat.reduceSub, reduceCtorEq, Nat.reduceLeDiff, Nat.reduceLT, Int.reduceLT, Int.reduceLE, Int.reduceToNat, Int.reduceAdd, Int.reduceSub, Int.reduceNeg, Int.reduceMul, Int.reduceEq, ← Bool.decide_and, ← Bool.decide_or, ↓tq_n, ↓tq_e, ↓tq_r, ↓bq_n, ↓bq_e, ↓bq_r, ↓rq_n, ↓rq_r, ↓rq_e]
  obtain ⟨l8, hvl⟩ := chk_vls h1
  refine awp_tok 7 1 (nl := true) (n := 0) (cs := []) rfl fun tk ht => ?_
  refine awp_loop (fun p : Nat × List Int => [(1, .sl n2 t.length (prs t) u2), (7, gl (i64s p.2) p.1 (.tok tk)), (21, .sl n1 l.length (hds l) u1), (22, I l.length), (23, I p.1)]) (fun p => h'.setTok tk p.1 1) (fun p => p.1 ≤ l.length ∧ yl l t p.1 = some p.2) (fun p => l.length - p.1) (0, []) ⟨Nat.zero_le _, rfl⟩ (GStep.forget (by repeat' first | exact EnvLe.nil _ | refine EnvLe.cons (AV.le.of_eq rfl) ?_ | refine EnvLe.cons (AV.le.undef _) ?_ | refine EnvLe.cons AV.le.unk ?_) (by repeat' first | exact AH.le.refl _ | assumption | (refine AH.le_put ?_ (by first | assumption | exact (AH.blk_put_ne _ _ (by assumption)).trans (by assumption) | exact AH.none_put (by assumption) | exact AH.none_put (AH.none_put (by assumption)) | (simp only [AH.blk_setTok, AH.tok_put] at *; first | assumption | exact AH.none_put (by assumption)))) | (refine AH.le_setTok ?_ (by first | assumption | exact (AH.blk_put_ne _ _ (by assumption)).trans (by assumption) | exact AH.none_put (by assumption) | exact AH.none_put (AH.none_put (by assumption)) | (simp only [AH.blk_setTok, AH.tok_put] at *; first | assumption | exact AH.none_put (by assumption)))) | (refine AH.le_putM ?_ (by first | assumption | exact (AH.mp_putM_ne _ _ (by assumption)).trans (by assumption) | (simp only [AH.mp_put, AH.mp_setTok] at *; assumption))))) fun p hp => .of_vg hm ?_
  obtain ⟨i, zs⟩ := p
  obtain ⟨h3, h4⟩ := hp
  simp only at h3 h4 ⊢
  have hzl := yl_len h4
  by_cases h5 : i < l.length
  · have hc : (i : Int) < (l.length : Int) := by omega
    have hv := (hvl i h5).1
    simp only [hc, hds_drop h5, F_burial_latest, g_burial_latest, go_sem, reduceIte, Nat.reduceEqDiff, Nat.reduceAdd, Nat.reduceMul, Nat.reduceSub, reduceCtorEq, Nat.reduceLeDiff, Nat.reduceLT, Int.reduceLT, Int.reduceLE, Int.reduceToNat, Int.reduceAdd, Int.reduceSub, Int.reduceNeg, Int.reduceMul, Int.reduceEq, ← Bool.decide_and, ← Bool.decide_or, ↓tq_n, ↓tq_e, ↓tq_r, ↓bq_n, ↓bq_e, ↓bq_r, ↓rq_n, ↓rq_r, ↓rq_e]
    refine CallG.mk (r_hoard_Latest (l.getD i dH) n2 t u2 _) ?_
    unfold latestV
    rw [if_pos ⟨hv, h2⟩]
    cases hs : latE (l.getD i dH) t with
    | none =>
      simp only [F_burial_latest, g_burial_latest, go_sem, reduceIte, Nat.reduceEqDiff, Nat.reduceAdd, Nat.reduceMul, Nat.reduceSub, reduceCtorEq, Nat.reduceLeDiff, Nat.reduceLT, Int.reduceLT, Int.reduceLE, Int.reduceToNat, Int.reduceAdd, Int.reduceSub, Int.reduceNeg, Int.reduceMul, Int.reduceEq, ← Bool.decide_and, ← Bool.decide_or, ↓tq_n, ↓tq_e, ↓tq_r, ↓bq_n, ↓bq_e, ↓bq_r, ↓rq_n, ↓rq_r, ↓rq_e]
      refine ret_hb (AH.le_setTok (.refl _) ht) ?_
      have := yl_stop h5 hs
      simp [yearsV, yq, h1, h2, this]
    | some s =>
      obtain ⟨s1, s2⟩ := lat_val hv hs
      obtain ⟨i1, i2, i3⟩ := val_idx s2
      have hic : idx t s.1 < (t.length : Int) := by omega
      simp only [F_burial_latest, g_burial_latest, go_sem, reduceIte, Nat.reduceEqDiff, Nat.reduceAdd, Nat.reduceMul, Nat.reduceSub, reduceCtorEq, Nat.reduceLeDiff, Nat.reduceLT, Int.reduceLT, Int.reduceLE, Int.reduceToNat, Int.reduceAdd, Int.reduceSub, Int.reduceNeg, Int.reduceMul, Int.reduceEq, ← Bool.decide_and, ← Bool.decide_or, ↓tq_n, ↓tq_e, ↓tq_r, ↓bq_n, ↓bq_e, ↓bq_r, ↓rq_n, ↓rq_r, ↓rq_e]
      refine CallG.mk (r_slices_IndexFunc_Entry 65 [.sptr [I s.1]] (fun x => decide (x.1 = s.1)) n2 t u2 _ fun x h => r_burial_latest_1 x.1 x.2 s.1 h) ?_
      have e0 : findI (fun i => decide ((t.getD i (0, 0)).1 = s.1)) t.length = idx t s.1 := rfl
      rw [e0]
      have hpd := prs_drop i2
      rw [i3] at hpd
      simp only [hic, i1, hpd, F_burial_latest, g_burial_latest, go_sem, reduceIte, Nat.reduceEqDiff, Nat.reduceAdd, Nat.reduceMul, Nat.reduceSub, reduceCtorEq, Nat.reduceLeDiff, Nat.reduceLT, Int.reduceLT, Int.reduceLE, Int.reduceToNat, Int.reduceAdd, Int.reduceSub, Int.reduceNeg, Int.reduceMul, Int.reduceEq, ← Bool.decide_and, ← Bool.decide_or, ↓tq_n, ↓tq_e, ↓tq_r, ↓bq_n, ↓bq_e, ↓bq_r, ↓rq_n, ↓rq_r, ↓rq_e]
      refine ⟨by rw [i64s_len, hzl], by omega, by omega, by rw [inR64]; omega, (i + 1, zs ++ [s.2]), ⟨by simp only; omega, yl_step h4 hs⟩, by simp only; omega, ?_⟩
      rw [i64s_append]
      exact (GStep.forget (by repeat' first | exact EnvLe.nil _ | refine EnvLe.cons (AV.le.of_eq rfl) ?_ | refine EnvLe.cons (AV.le.undef _) ?_ | refine EnvLe.cons AV.le.unk ?_) (by repeat' first | exact AH.le.refl _ | assumption | (refine AH.le_put ?_ (by first | assumption | exact (AH.blk_put_ne _ _ (by assumption)).trans (by assumption) | exact AH.none_put (by assumption) | exact AH.none_put (AH.none_put (by assumption)) | (simp only [AH.blk_setTok, AH.tok_put] at *; first | assumption | exact AH.none_put (by assumption)))) | (refine AH.le_setTok ?_ (by first | assumption | exact (AH.blk_put_ne _ _ (by assumption)).trans (by assumption) | exact AH.none_put (by assumption) | exact AH.none_put (AH.none_put (by assumption)) | (simp only [AH.blk_setTok, AH.tok_put] at *; first | assumption | exact AH.none_put (by assumption)))) | (refine AH.le_putM ?_ (by first | assumption | exact (AH.mp_putM_ne _ _ (by assumption)).trans (by assumption) | (simp only [AH.mp_put, AH.mp_setTok] at *; assumption)))))
  · have h5 : i = l.length := by omega
    subst h5
    simp only [F_burial_latest, g_burial_latest, go_sem, reduceIte, Nat.reduceEqDiff, Nat.reduceAdd, Nat.reduceMul, Nat.reduceSub, reduceCtorEq, Nat.reduceLeDiff, Nat.reduceLT, Int.reduceLT, Int.reduceLE, Int.reduceToNat, Int.reduceAdd, Int.reduceSub, Int.reduceNeg, Int.reduceMul, Int.reduceEq, ← Bool.decide_and, ← Bool.decide_or, ↓tq_n, ↓tq_e, ↓tq_r, ↓bq_n, ↓bq_e, ↓bq_r, ↓rq_n, ↓rq_r, ↓rq_e]
    have e1 : ys l t = zs := by simp [ys, h1, h2, h4]
    have e2 : yq l t = 0 := by simp [yq, h1, h2, h4]
    refine ret_le (AH.le_setTok (.refl _) ht) ?_
    unfold yearsV
    rw [if_pos e2, e1]
    exact AV.le.tupC (.cons AV.le.glU (.cons (AV.le.refl _) .nil))
end Go.Proofs.Ytnekkkjedmlloaa
