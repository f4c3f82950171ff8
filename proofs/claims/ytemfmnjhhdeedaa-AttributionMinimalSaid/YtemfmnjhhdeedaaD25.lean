/- Calls of functions of this seat's program: the cheapest set, where the weights are kept in memory; the statement AttributionMinimal as a call. No condition. -/
import Derived.Test.YtemfmnjhhdeedaaD24
namespace Go.Proofs.Ytemfmnjhhdeedaa
open Go Go.Abs
set_option linter.unusedSimpArgs false
set_option linter.unusedVariables false
set_option maxRecDepth 20000

theorem r_slices_IndexFunc_intR (x : AV) (e : List Int) (f : FuncId) (caps : List AV) (p : Nat → Bool) (h : AH) (hx : Rd h x e) (hel : e.length ≤ 1000) (hp : ∀ i, i < e.length → RCall Try.prog f (I (e.getD i 0) :: caps) h (.bool (p i))) :
    RCall Try.prog n_slices_IndexFunc_int [x, .fn f caps] h (I (findI p e.length)) := by
  refine RCall.of hm cF_slices_IndexFunc_int (by simp [g_slices_IndexFunc_int]) fun hw h' hl => ?_
  have hx := hx.leB hl
  simp only [rd_len hx, F_slices_IndexFunc_int, g_slices_IndexFunc_int, go_sem, reduceIte, Nat.reduceEqDiff, Nat.reduceAdd, Nat.reduceMul, Nat.reduceSub, reduceCtorEq, Nat.reduceLeDiff, Nat.reduceLT, Int.reduceLT, Int.reduceLE, Int.reduceToNat, Int.reduceAdd, Int.reduceSub, Int.reduceNeg, Int.reduceMul, Int.reduceEq, ← Bool.decide_and, ← Bool.decide_or, ↓tq_n, ↓tq_e, ↓tq_r, ↓bq_n, ↓bq_e, ↓bq_r, ↓rq_n, ↓rq_r, ↓rq_e]
  refine awp_loop (fun i : Nat => [(0, x), (1, .fn f caps), (7, I e.length), (8, I i)]) (fun _ => h') (fun i => i ≤ e.length ∧ ∀ j, j < i → p j = false) (fun i => e.length - i) 0 ⟨by omega, by omega⟩ (GStep.forget (by repeat' first | exact EnvLe.nil _ | refine EnvLe.cons (AV.le.of_eq rfl) ?_ | refine EnvLe.cons (AV.le.undef _) ?_ | refine EnvLe.cons AV.le.unk ?_) (by repeat' first | exact AH.le.refl _ | assumption | (refine AH.le_put ?_ (by first | assumption | exact (AH.blk_put_ne _ _ (by assumption)).trans (by assumption) | exact AH.none_put (by assumption) | exact AH.none_put (AH.none_put (by assumption)) | (simp only [AH.blk_setTok, AH.tok_put] at *; first | assumption | exact AH.none_put (by assumption)))) | (refine AH.le_setTok ?_ (by first | assumption | exact (AH.blk_put_ne _ _ (by assumption)).trans (by assumption) | exact AH.none_put (by assumption) | exact AH.none_put (AH.none_put (by assumption)) | (simp only [AH.blk_setTok, AH.tok_put] at *; first | assumption | exact AH.none_put (by assumption)))) | (refine AH.le_putM ?_ (by first | assumption | exact (AH.mp_putM_ne _ _ (by assumption)).trans (by assumption) | (simp only [AH.mp_put, AH.mp_setTok] at *; assumption))))) fun i hi => .of_vg hm ?_
  obtain ⟨h1, h2⟩ := hi
  by_cases h3 : i < e.length
  · have hc : (i : Int) < (e.length : Int) := by omega
    simp only [hc, rd_ix hx, rd_ld hx h3, F_slices_IndexFunc_int, g_slices_IndexFunc_int, go_sem, reduceIte, Nat.reduceEqDiff, Nat.reduceAdd, Nat.reduceMul, Nat.reduceSub, reduceCtorEq, Nat.reduceLeDiff, Nat.reduceLT, Int.reduceLT, Int.reduceLE, Int.reduceToNat, Int.reduceAdd, Int.reduceSub, Int.reduceNeg, Int.reduceMul, Int.reduceEq, ← Bool.decide_and, ← Bool.decide_or, ↓tq_n, ↓tq_e, ↓tq_r, ↓bq_n, ↓bq_e, ↓bq_r, ↓rq_n, ↓rq_r, ↓rq_e]
    refine CallG.mk ((hp i h3).leB hl) ?_
    cases hpi : p i
    · simp only [F_slices_IndexFunc_int, g_slices_IndexFunc_int, go_sem, reduceIte, Nat.reduceEqDiff, Nat.reduceAdd, Nat.reduceMul, Nat.reduceSub, reduceCtorEq, Nat.reduceLeDiff, Nat.reduceLT, Int.reduceLT, Int.reduceLE, Int.reduceToNat, Int.reduceAdd, Int.reduceSub, Int.reduceNeg, Int.reduceMul, Int.reduceEq, ← Bool.decide_and, ← Bool.decide_or, ↓tq_n, ↓tq_e, ↓tq_r, ↓bq_n, ↓bq_e, ↓bq_r, ↓rq_n, ↓rq_r, ↓rq_e]
      exact ⟨by rw [inR64]; omega, i + 1, ⟨by omega, fun j hj => by rcases Nat.lt_succ_iff_lt_or_eq.1 hj with h | rfl; exact h2 j h; exact hpi⟩, by omega, (GStep.forget (by repeat' first | exact EnvLe.nil _ | refine EnvLe.cons (AV.le.of_eq rfl) ?_ | refine EnvLe.cons (AV.le.undef _) ?_ | refine EnvLe.cons AV.le.unk ?_) (by repeat' first | exact AH.le.refl _ | assumption | (refine AH.le_put ?_ (by first | assumption | exact (AH.blk_put_ne _ _ (by assumption)).trans (by assumption) | exact AH.none_put (by assumption) | exact AH.none_put (AH.none_put (by assumption)) | (simp only [AH.blk_setTok, AH.tok_put] at *; first | assumption | exact AH.none_put (by assumption)))) | (refine AH.le_setTok ?_ (by first | assumption | exact (AH.blk_put_ne _ _ (by assumption)).trans (by assumption) | exact AH.none_put (by assumption) | exact AH.none_put (AH.none_put (by assumption)) | (simp only [AH.blk_setTok, AH.tok_put] at *; first | assumption | exact AH.none_put (by assumption)))) | (refine AH.le_putM ?_ (by first | assumption | exact (AH.mp_putM_ne _ _ (by assumption)).trans (by assumption) | (simp only [AH.mp_put, AH.mp_setTok] at *; assumption)))))⟩
    · simp only [F_slices_IndexFunc_int, g_slices_IndexFunc_int, go_sem, reduceIte, Nat.reduceEqDiff, Nat.reduceAdd, Nat.reduceMul, Nat.reduceSub, reduceCtorEq, Nat.reduceLeDiff, Nat.reduceLT, Int.reduceLT, Int.reduceLE, Int.reduceToNat, Int.reduceAdd, Int.reduceSub, Int.reduceNeg, Int.reduceMul, Int.reduceEq, ← Bool.decide_and, ← Bool.decide_or, ↓tq_n, ↓tq_e, ↓tq_r, ↓bq_n, ↓bq_e, ↓bq_r, ↓rq_n, ↓rq_r, ↓rq_e]
      refine ret_hb (by repeat' first | exact AH.le.refl _ | assumption | (refine AH.le_put ?_ (by first | assumption | exact (AH.blk_put_ne _ _ (by assumption)).trans (by assumption) | exact AH.none_put (by assumption) | exact AH.none_put (AH.none_put (by assumption)) | (simp only [AH.blk_setTok, AH.tok_put] at *; first | assumption | exact AH.none_put (by assumption)))) | (refine AH.le_setTok ?_ (by first | assumption | exact (AH.blk_put_ne _ _ (by assumption)).trans (by assumption) | exact AH.none_put (by assumption) | exact AH.none_put (AH.none_put (by assumption)) | (simp only [AH.blk_setTok, AH.tok_put] at *; first | assumption | exact AH.none_put (by assumption)))) | (refine AH.le_putM ?_ (by first | assumption | exact (AH.mp_putM_ne _ _ (by assumption)).trans (by assumption) | (simp only [AH.mp_put, AH.mp_setTok] at *; assumption)))) ?_
      rw [findI_at hpi h2 h3]
  · have h3 : i = e.length := by omega
    subst h3
    simp only [F_slices_IndexFunc_int, g_slices_IndexFunc_int, go_sem, reduceIte, Nat.reduceEqDiff, Nat.reduceAdd, Nat.reduceMul, Nat.reduceSub, reduceCtorEq, Nat.reduceLeDiff, Nat.reduceLT, Int.reduceLT, Int.reduceLE, Int.reduceToNat, Int.reduceAdd, Int.reduceSub, Int.reduceNeg, Int.reduceMul, Int.reduceEq, ← Bool.decide_and, ← Bool.decide_or, ↓tq_n, ↓tq_e, ↓tq_r, ↓bq_n, ↓bq_e, ↓bq_r, ↓rq_n, ↓rq_r, ↓rq_e]
    refine ret_hb (by repeat' first | exact AH.le.refl _ | assumption | (refine AH.le_put ?_ (by first | assumption | exact (AH.blk_put_ne _ _ (by assumption)).trans (by assumption) | exact AH.none_put (by assumption) | exact AH.none_put (AH.none_put (by assumption)) | (simp only [AH.blk_setTok, AH.tok_put] at *; first | assumption | exact AH.none_put (by assumption)))) | (refine AH.le_setTok ?_ (by first | assumption | exact (AH.blk_put_ne _ _ (by assumption)).trans (by assumption) | exact AH.none_put (by assumption) | exact AH.none_put (AH.none_put (by assumption)) | (simp only [AH.blk_setTok, AH.tok_put] at *; first | assumption | exact AH.none_put (by assumption)))) | (refine AH.le_putM ?_ (by first | assumption | exact (AH.mp_putM_ne _ _ (by assumption)).trans (by assumption) | (simp only [AH.mp_put, AH.mp_setTok] at *; assumption)))) ?_
    rw [findI_neg h2]
theorem r_slices_ContainsFunc_intR (x : AV) (e : List Int) (f : FuncId) (caps : List AV) (p : Nat → Bool) (h : AH) (hx : Rd h x e) (hel : e.length ≤ 1000) (hp : ∀ i, i < e.length → RCall Try.prog f (I (e.getD i 0) :: caps) h (.bool (p i))) :
    RCall Try.prog n_slices_ContainsFunc_int [x, .fn f caps] h (.bool ((List.range e.length).any p)) := by
  refine RCall.of hm cF_slices_ContainsFunc_int (by simp [g_slices_ContainsFunc_int]) fun hw h' hl => ?_
  simp only [F_slices_ContainsFunc_int, g_slices_ContainsFunc_int, go_sem, reduceIte, Nat.reduceEqDiff, Nat.reduceAdd, Nat.reduceMul, Nat.reduceSub, reduceCtorEq, Nat.reduceLeDiff, Nat.reduceLT, Int.reduceLT, Int.reduceLE, Int.reduceToNat, Int.reduceAdd, Int.reduceSub, Int.reduceNeg, Int.reduceMul, Int.reduceEq, ← Bool.decide_and, ← Bool.decide_or, ↓tq_n, ↓tq_e, ↓tq_r, ↓bq_n, ↓bq_e, ↓bq_r, ↓rq_n, ↓rq_r, ↓rq_e]
  refine CallG.mk (r_slices_IndexFunc_intR x e f caps p h' (hx.leB hl) hel (fun i hi => (hp i hi).leB hl)) ?_
  simp only [F_slices_ContainsFunc_int, g_slices_ContainsFunc_int, go_sem, reduceIte, Nat.reduceEqDiff, Nat.reduceAdd, Nat.reduceMul, Nat.reduceSub, reduceCtorEq, Nat.reduceLeDiff, Nat.reduceLT, Int.reduceLT, Int.reduceLE, Int.reduceToNat, Int.reduceAdd, Int.reduceSub, Int.reduceNeg, Int.reduceMul, Int.reduceEq, ← Bool.decide_and, ← Bool.decide_or, ↓tq_n, ↓tq_e, ↓tq_r, ↓bq_n, ↓bq_e, ↓bq_r, ↓rq_n, ↓rq_r, ↓rq_e]
  refine ret_hb (by repeat' first | exact AH.le.refl _ | assumption | (refine AH.le_put ?_ (by first | assumption | exact (AH.blk_put_ne _ _ (by assumption)).trans (by assumption) | exact AH.none_put (by assumption) | exact AH.none_put (AH.none_put (by assumption)) | (simp only [AH.blk_setTok, AH.tok_put] at *; first | assumption | exact AH.none_put (by assumption)))) | (refine AH.le_setTok ?_ (by first | assumption | exact (AH.blk_put_ne _ _ (by assumption)).trans (by assumption) | exact AH.none_put (by assumption) | exact AH.none_put (AH.none_put (by assumption)) | (simp only [AH.blk_setTok, AH.tok_put] at *; first | assumption | exact AH.none_put (by assumption)))) | (refine AH.le_putM ?_ (by first | assumption | exact (AH.mp_putM_ne _ _ (by assumption)).trans (by assumption) | (simp only [AH.mp_put, AH.mp_setTok] at *; assumption)))) ?_
  rw [anyI]
theorem r_attribution_checkR (n : Int) (n1 : Bool) (a : List (Int × Int)) (u1 : Tail) (x : AV) (w : List Int) (h : AH) (hx : Rd h x w) : RCall Try.prog n_attribution_check [I n, .sl n1 a.length (prs a) u1, x] h (I (chkE n a w)) := by
  refine RCall.of hm cF_attribution_check (by simp [g_attribution_check]) fun hw h' hl => ?_
  have hx := hx.leB hl
  by_cases c1 : 9 < n
  · simp only [c1, F_attribution_check, g_attribution_check, go_sem, reduceIte, Nat.reduceEqDiff, Nat.reduceAdd, Nat.reduceMul, Nat.reduceSub, reduceCtorEq, Nat.reduceLeDiff, Nat.reduceLT, Int.reduceLT, Int.reduceLE, Int.reduceToNat, Int.reduceAdd, Int.reduceSub, Int.reduceNeg, Int.reduceMul, Int.reduceEq, ← Bool.decide_and, ← Bool.decide_or, ↓tq_n, ↓tq_e, ↓tq_r, ↓bq_n, ↓bq_e, ↓bq_r, ↓rq_n, ↓rq_r, ↓rq_e]
    exact ret_ok (by simp [chkE, c1])
  by_cases c2 : 24 < a.length
  · have c2' : (24 : Int) < (a.length : Int) := by omega
    simp only [c1, c2', F_attribution_check, g_attribution_check, go_sem, reduceIte, Nat.reduceEqDiff, Nat.reduceAdd, Nat.reduceMul, Nat.reduceSub, reduceCtorEq, Nat.reduceLeDiff, Nat.reduceLT, Int.reduceLT, Int.reduceLE, Int.reduceToNat, Int.reduceAdd, Int.reduceSub, Int.reduceNeg, Int.reduceMul, Int.reduceEq, ← Bool.decide_and, ← Bool.decide_or, ↓tq_n, ↓tq_e, ↓tq_r, ↓bq_n, ↓bq_e, ↓bq_r, ↓rq_n, ↓rq_r, ↓rq_e]
    exact ret_ok (by simp [chkE, c2])
  have c2' : ¬ (24 : Int) < (a.length : Int) := by omega
  have e0 : chkE n a w = if Ev n a ∧ w.length = a.length ∧ Wl w then 0 else 1 := by
    unfold chkE
    rw [if_neg (fun hh => by rcases hh with hh | hh; exact c1 hh; exact c2 hh)]
  simp only [c1, c2', F_attribution_check, g_attribution_check, go_sem, reduceIte, Nat.reduceEqDiff, Nat.reduceAdd, Nat.reduceMul, Nat.reduceSub, reduceCtorEq, Nat.reduceLeDiff, Nat.reduceLT, Int.reduceLT, Int.reduceLE, Int.reduceToNat, Int.reduceAdd, Int.reduceSub, Int.reduceNeg, Int.reduceMul, Int.reduceEq, ← Bool.decide_and, ← Bool.decide_or, ↓tq_n, ↓tq_e, ↓tq_r, ↓bq_n, ↓bq_e, ↓bq_r, ↓rq_n, ↓rq_r, ↓rq_e]
  refine CallG.mk (r_contradiction_Valid n n1 a u1 _) ?_
  by_cases c3 : Ev n a
  case neg =>
    rw [decide_eq_false c3]
    simp only [F_attribution_check, g_attribution_check, go_sem, reduceIte, Nat.reduceEqDiff, Nat.reduceAdd, Nat.reduceMul, Nat.reduceSub, reduceCtorEq, Nat.reduceLeDiff, Nat.reduceLT, Int.reduceLT, Int.reduceLE, Int.reduceToNat, Int.reduceAdd, Int.reduceSub, Int.reduceNeg, Int.reduceMul, Int.reduceEq, ← Bool.decide_and, ← Bool.decide_or, ↓tq_n, ↓tq_e, ↓tq_r, ↓bq_n, ↓bq_e, ↓bq_r, ↓rq_n, ↓rq_r, ↓rq_e]
    exact ret_ok (by rw [e0, if_neg (fun hh => c3 hh.1)])
  rw [decide_eq_true c3]
  by_cases c4 : w.length = a.length
  case neg =>
    have c4' : ¬ (w.length : Int) = (a.length : Int) := by omega
    simp only [rd_len hx, c4', F_attribution_check, g_attribution_check, go_sem, reduceIte, Nat.reduceEqDiff, Nat.reduceAdd, Nat.reduceMul, Nat.reduceSub, reduceCtorEq, Nat.reduceLeDiff, Nat.reduceLT, Int.reduceLT, Int.reduceLE, Int.reduceToNat, Int.reduceAdd, Int.reduceSub, Int.reduceNeg, Int.reduceMul, Int.reduceEq, ← Bool.decide_and, ← Bool.decide_or, ↓tq_n, ↓tq_e, ↓tq_r, ↓bq_n, ↓bq_e, ↓bq_r, ↓rq_n, ↓rq_r, ↓rq_e]
    exact ret_ok (by rw [e0, if_neg (fun hh => c4 hh.2.1)])
  have c4' : (w.length : Int) = (a.length : Int) := by omega
  simp only [rd_len hx, decide_eq_true c4', F_attribution_check, g_attribution_check, go_sem, reduceIte, Nat.reduceEqDiff, Nat.reduceAdd, Nat.reduceMul, Nat.reduceSub, reduceCtorEq, Nat.reduceLeDiff, Nat.reduceLT, Int.reduceLT, Int.reduceLE, Int.reduceToNat, Int.reduceAdd, Int.reduceSub, Int.reduceNeg, Int.reduceMul, Int.reduceEq, ← Bool.decide_and, ← Bool.decide_or, ↓tq_n, ↓tq_e, ↓tq_r, ↓bq_n, ↓bq_e, ↓bq_r, ↓rq_n, ↓rq_r, ↓rq_e]
  refine CallG.mk (r_slices_ContainsFunc_intR x w 54 [] (fun i => !decide (1 ≤ w.getD i 0 ∧ w.getD i 0 ≤ 100)) _ hx (by omega) (fun i _ => r_attribution_check_1 _ _)) ?_
  rw [wl_any]
  by_cases c5 : Wl w
  · rw [decide_eq_true c5]
    simp only [F_attribution_check, g_attribution_check, go_sem, reduceIte, Nat.reduceEqDiff, Nat.reduceAdd, Nat.reduceMul, Nat.reduceSub, reduceCtorEq, Nat.reduceLeDiff, Nat.reduceLT, Int.reduceLT, Int.reduceLE, Int.reduceToNat, Int.reduceAdd, Int.reduceSub, Int.reduceNeg, Int.reduceMul, Int.reduceEq, ← Bool.decide_and, ← Bool.decide_or, ↓tq_n, ↓tq_e, ↓tq_r, ↓bq_n, ↓bq_e, ↓bq_r, ↓rq_n, ↓rq_r, ↓rq_e]
    exact ret_ok (by rw [e0, if_pos ⟨c3, c4, c5⟩])
  · rw [decide_eq_false c5]
    simp only [F_attribution_check, g_attribution_check, go_sem, reduceIte, Nat.reduceEqDiff, Nat.reduceAdd, Nat.reduceMul, Nat.reduceSub, reduceCtorEq, Nat.reduceLeDiff, Nat.reduceLT, Int.reduceLT, Int.reduceLE, Int.reduceToNat, Int.reduceAdd, Int.reduceSub, Int.reduceNeg, Int.reduceMul, Int.reduceEq, ← Bool.decide_and, ← Bool.decide_or, ↓tq_n, ↓tq_e, ↓tq_r, ↓bq_n, ↓bq_e, ↓bq_r, ↓rq_n, ↓rq_r, ↓rq_e]
    exact ret_ok (by rw [e0, if_neg (fun hh => c5 hh.2.2)])
theorem s_slices_Clone_intM (b0 q0 : Nat) (xs : List Int) (more : List AV) (h1 : 1 ≤ xs.length) (hl1 : xs.length ≤ 1000) (h : AH) (hb0 : h.blk b0 = some (i64s xs ++ more)) :
    ACalls Try.prog n_slices_Clone_int [.msl b0 0 xs.length (some q0)] h fun r h' => ∃ b q, xs.length ≤ q ∧ h.blk b = none ∧ r = .msl b 0 xs.length (some q) ∧ h' = h.put b (i64s xs ++ List.replicate (q - xs.length) .undef) := by
  refine ACalls.of hm cF_slices_Clone_int (by simp [g_slices_Clone_int]) fun hw => ?_
  have ht : List.take xs.length (i64s xs ++ more) = i64s xs := by
    rw [List.take_append_of_le_length (by rw [i64s_len]; exact Nat.le_refl _), List.take_of_length_le (by rw [i64s_len]; exact Nat.le_refl _)]
  simp only [hb0, Nat.mul_one, List.drop_zero, ht, F_slices_Clone_int, g_slices_Clone_int, go_sem, reduceIte, Nat.reduceEqDiff, Nat.reduceAdd, Nat.reduceMul, Nat.reduceSub, reduceCtorEq, Nat.reduceLeDiff, Nat.reduceLT, Int.reduceLT, Int.reduceLE, Int.reduceToNat, Int.reduceAdd, Int.reduceSub, Int.reduceNeg, Int.reduceMul, Int.reduceEq, ← Bool.decide_and, ← Bool.decide_or, ↓tq_n, ↓tq_e, ↓tq_r, ↓bq_n, ↓bq_e, ↓bq_r, ↓rq_n, ↓rq_r, ↓rq_e]
  refine ⟨by rw [List.length_append, i64s_len]; omega, by omega, by omega, by omega, GrowG.mk fun b q hq hb => ?_⟩
  simp only [F_slices_Clone_int, g_slices_Clone_int, go_sem, reduceIte, Nat.reduceEqDiff, Nat.reduceAdd, Nat.reduceMul, Nat.reduceSub, reduceCtorEq, Nat.reduceLeDiff, Nat.reduceLT, Int.reduceLT, Int.reduceLE, Int.reduceToNat, Int.reduceAdd, Int.reduceSub, Int.reduceNeg, Int.reduceMul, Int.reduceEq, ← Bool.decide_and, ← Bool.decide_or, ↓tq_n, ↓tq_e, ↓tq_r, ↓bq_n, ↓bq_e, ↓bq_r, ↓rq_n, ↓rq_r, ↓rq_e]
  exact ⟨_, _, .refl _ _, b, q, hq, hb, rfl, rfl⟩
set_option maxHeartbeats 2000000 in
theorem r_attribution_LeastR (n : Int) (n1 : Bool) (a : List (Int × Int)) (u1 : Tail) (x : AV) (w : List Int) (h : AH) (hx : Rd h x w) (hw0 : 0 < w.length) (hcl : ∀ g : AH, AH.leB h g → ACalls Try.prog n_slices_Clone_int [x] g fun r g' => ∃ b q, w.length ≤ q ∧ g.blk b = none ∧ r = .msl b 0 w.length (some q) ∧ g' = g.put b (i64s w ++ List.replicate (q - w.length) .undef)) : RCall Try.prog n_attribution_Least [I n, .sl n1 a.length (prs a) u1, x] h (leV n a w) := by
  refine RCall.of hm cF_attribution_Least (by simp [g_attribution_Least]) fun hwf h' hl => ?_
  have hx' := hx.leB hl
  simp only [F_attribution_Least, g_attribution_Least, go_sem, reduceIte, Nat.reduceEqDiff, Nat.reduceAdd, Nat.reduceMul, Nat.reduceSub, reduceCtorEq, Nat.reduceLeDiff, Nat.reduceLT, Int.reduceLT, Int.reduceLE, Int.reduceToNat, Int.reduceAdd, Int.reduceSub, Int.reduceNeg, Int.reduceMul, Int.reduceEq, ← Bool.decide_and, ← Bool.decide_or, ↓tq_n, ↓tq_e, ↓tq_r, ↓bq_n, ↓bq_e, ↓bq_r, ↓rq_n, ↓rq_r, ↓rq_e]
  refine CallG.mk (r_attribution_checkR n n1 a u1 x w _ hx') ?_
  by_cases c1 : chkE n a w = 0
  case neg =>
    simp only [c1, F_attribution_Least, g_attribution_Least, go_sem, reduceIte, Nat.reduceEqDiff, Nat.reduceAdd, Nat.reduceMul, Nat.reduceSub, reduceCtorEq, Nat.reduceLeDiff, Nat.reduceLT, Int.reduceLT, Int.reduceLE, Int.reduceToNat, Int.reduceAdd, Int.reduceSub, Int.reduceNeg, Int.reduceMul, Int.reduceEq, ← Bool.decide_and, ← Bool.decide_or, ↓tq_n, ↓tq_e, ↓tq_r, ↓bq_n, ↓bq_e, ↓bq_r, ↓rq_n, ↓rq_r, ↓rq_e]
    exact ret_ok (by simp [leV, c1])
  have hok := chk_ok.1 c1
  obtain ⟨m, rfl⟩ := ev_nat hok.2.2.1
  have hw1 := okc_w1 hok
  have he := hok.2.2.1
  have hm9 : m ≤ 9 := by have := hok.1; omega
  have hal := hok.2.1
  have hwl := hw1.1
  have hM0 : 1 ≤ 2 ^ m := Nat.pow_pos (by omega)
  have htl : ∀ w, (tabL m a w).length = 2 ^ m := fun w => tabL_len m a w
  have hz : ∀ w, (0 : Int) < ((tabL m a w).length : Int) := fun w => by rw [htl]; omega
  have hd : ∀ w, (i64s (tabL m a w)).drop (0 * 1) = I (tot m a w) :: (i64s (tabL m a w)).drop (0 + 1) := fun w => by
    rw [Nat.zero_mul, i64s_drop (show 0 < (tabL m a w).length by rw [htl]; omega), tot_tab]
  have hd' : ∀ w, i64s (tabL m a w) = I (tot m a w) :: (i64s (tabL m a w)).drop (0 + 1) := fun w => by
    have := hd w
    rwa [Nat.zero_mul, List.drop_zero] at this
  simp only [c1, F_attribution_Least, g_attribution_Least, go_sem, reduceIte, Nat.reduceEqDiff, Nat.reduceAdd, Nat.reduceMul, Nat.reduceSub, reduceCtorEq, Nat.reduceLeDiff, Nat.reduceLT, Int.reduceLT, Int.reduceLE, Int.reduceToNat, Int.reduceAdd, Int.reduceSub, Int.reduceNeg, Int.reduceMul, Int.reduceEq, ← Bool.decide_and, ← Bool.decide_or, ↓tq_n, ↓tq_e, ↓tq_r, ↓bq_n, ↓bq_e, ↓bq_r, ↓rq_n, ↓rq_r, ↓rq_e]
  refine CallG.mk (r_attribution_costs m n1 a u1 he hm9 _ w hw1.wb _ hx') ?_
  have hle0 : leV m a w = .tup [gl (i64s (nats (lsK m a w a.length).1)) (nats (lsK m a w a.length).1).length .unk, I (tot m a w), I 0] := by
    unfold leV; rw [if_pos c1, Int.toNat_natCast]
  rw [hd' w]
  simp only [hz, List.drop_zero, F_attribution_Least, g_attribution_Least, go_sem, reduceIte, Nat.reduceEqDiff, Nat.reduceAdd, Nat.reduceMul, Nat.reduceSub, reduceCtorEq, Nat.reduceLeDiff, Nat.reduceLT, Int.reduceLT, Int.reduceLE, Int.reduceToNat, Int.reduceAdd, Int.reduceSub, Int.reduceNeg, Int.reduceMul, Int.reduceEq, ← Bool.decide_and, ← Bool.decide_or, ↓tq_n, ↓tq_e, ↓tq_r, ↓bq_n, ↓bq_e, ↓bq_r, ↓rq_n, ↓rq_r, ↓rq_e]
  refine CallS.mk (hcl _ hl) fun r g hr => ?_
  obtain ⟨b, q, hq, hb, rfl, rfl⟩ := hr
  have hcl : (i64s w ++ List.replicate (q - w.length) AV.undef) = i64s w ++ List.replicate (q - w.length) AV.undef := rfl
  generalize List.replicate (q - w.length) AV.undef = und
  simp only [F_attribution_Least, g_attribution_Least, go_sem, reduceIte, Nat.reduceEqDiff, Nat.reduceAdd, Nat.reduceMul, Nat.reduceSub, reduceCtorEq, Nat.reduceLeDiff, Nat.reduceLT, Int.reduceLT, Int.reduceLE, Int.reduceToNat, Int.reduceAdd, Int.reduceSub, Int.reduceNeg, Int.reduceMul, Int.reduceEq, ← Bool.decide_and, ← Bool.decide_or, ↓tq_n, ↓tq_e, ↓tq_r, ↓bq_n, ↓bq_e, ↓bq_r, ↓rq_n, ↓rq_r, ↓rq_e]
  refine awp_tok 12 1 (nl := true) (n := 0) (cs := []) rfl fun t ht => ?_
  refine awp_loop (fun i : Nat => [(0, I m), (1, .sl n1 a.length (prs a) u1), (2, x), (10, I (tot m a w)), (11, .msl b 0 w.length (some q)), (12, gl (i64s (nats (lsK m a w i).1)) (nats (lsK m a w i).1).length (.tok t)), (13, I (lsK m a w i).2.1), (31, I a.length), (32, I i)]) (fun i => (h'.setTok t (nats (lsK m a w i).1).length 1).put b (i64s (lsK m a w i).2.2 ++ und)) (fun i => i ≤ a.length) (fun i => a.length - i) 0 (Nat.zero_le _) (GStep.forget (by repeat' first | exact EnvLe.nil _ | refine EnvLe.cons (AV.le.of_eq rfl) ?_ | refine EnvLe.cons (AV.le.undef _) ?_ | refine EnvLe.cons AV.le.unk ?_) (by repeat' first | exact AH.le.refl _ | assumption | (refine AH.le_put ?_ (by first | assumption | exact (AH.blk_put_ne _ _ (by assumption)).trans (by assumption) | exact AH.none_put (by assumption) | exact AH.none_put (AH.none_put (by assumption)) | (simp only [AH.blk_setTok, AH.tok_put] at *; first | assumption | exact AH.none_put (by assumption)))) | (refine AH.le_setTok ?_ (by first | assumption | exact (AH.blk_put_ne _ _ (by assumption)).trans (by assumption) | exact AH.none_put (by assumption) | exact AH.none_put (AH.none_put (by assumption)) | (simp only [AH.blk_setTok, AH.tok_put] at *; first | assumption | exact AH.none_put (by assumption)))) | (refine AH.le_putM ?_ (by first | assumption | exact (AH.mp_putM_ne _ _ (by assumption)).trans (by assumption) | (simp only [AH.mp_put, AH.mp_setTok] at *; assumption))))) fun i hi => .of_vg hm ?_
  have k := lsK_inv (n := m) hw1 i hi
  have hsucc : lsK m a w (i + 1) = if (lsK m a w i).2.1 + w.getD i 0 + tot m a ((lsK m a w i).2.2.set i 0) = tot m a w
      then ((lsK m a w i).1 ++ [i], (lsK m a w i).2.1 + w.getD i 0, (lsK m a w i).2.2.set i 0)
      else ((lsK m a w i).1, (lsK m a w i).2.1, ((lsK m a w i).2.2.set i 0).set i 1000000) := rfl
  have hOl := inv_len k
  have hS := inv_sum hw1 k
  by_cases h3 : i < a.length
  case neg =>
    have h3 : i = a.length := by omega
    subst h3
    simp only [F_attribution_Least, g_attribution_Least, go_sem, reduceIte, Nat.reduceEqDiff, Nat.reduceAdd, Nat.reduceMul, Nat.reduceSub, reduceCtorEq, Nat.reduceLeDiff, Nat.reduceLT, Int.reduceLT, Int.reduceLE, Int.reduceToNat, Int.reduceAdd, Int.reduceSub, Int.reduceNeg, Int.reduceMul, Int.reduceEq, ← Bool.decide_and, ← Bool.decide_or, ↓tq_n, ↓tq_e, ↓tq_r, ↓bq_n, ↓bq_e, ↓bq_r, ↓rq_n, ↓rq_r, ↓rq_e]
    refine ret_le (AH.le_put (AH.le_setTok (AH.le.refl _) (by exact ht)) hb) ?_
    rw [hle0]
    exact tup3_le .glU
  have hwb := inv_wb hw1 k h3 (v := 0) ⟨by omega, by omega⟩
  have htt := tot_min (n := m) hwb.ok
  have hLl := k.len
  generalize lsK m a w i = st at k hsucc hOl hS hwb htt hLl ⊢
  obtain ⟨O, S, L⟩ := st
  simp only at k hsucc hOl hS hwb htt hLl ⊢
  have hc : (i : Int) < (a.length : Int) := by omega
  have hcw : (i : Int) < (w.length : Int) := by omega
  have hi0 : (0 : Int) ≤ (i : Int) := by omega
  have hw' := hw1.2.2 i h3
  have hset : ∀ (L : List Int) (v : Int), L.length = w.length → (i64s L ++ und).set i (I v) = i64s (L.set i v) ++ und := fun L v hL => by
    rw [List.set_append, if_pos (by rw [i64s_len]; omega), i64s_set]
  have hnl := nats_len O
  have hrd : Rd ((h'.setTok t (nats O).length 1).put b (i64s (L.set i 0) ++ und)) (.msl b 0 w.length (some q)) (L.set i 0) :=
    .inr ⟨b, some q, und, by rw [List.length_set, hLl], AH.blk_put _ _ _⟩
  have hT : tot m a (L.set i 0) ≤ 24 * 24000000 := by
    have := T_bd (n := m) hwb m 0
    unfold tot
    omega
  simp only [hc, hcw, hi0, hset L 0 hLl, F_attribution_Least, g_attribution_Least, go_sem, reduceIte, Nat.reduceEqDiff, Nat.reduceAdd, Nat.reduceMul, Nat.reduceSub, reduceCtorEq, Nat.reduceLeDiff, Nat.reduceLT, Int.reduceLT, Int.reduceLE, Int.reduceToNat, Int.reduceAdd, Int.reduceSub, Int.reduceNeg, Int.reduceMul, Int.reduceEq, ← Bool.decide_and, ← Bool.decide_or, ↓tq_n, ↓tq_e, ↓tq_r, ↓bq_n, ↓bq_e, ↓bq_r, ↓rq_n, ↓rq_r, ↓rq_e]
  refine ⟨by rw [List.length_append, i64s_len]; omega, ?_⟩
  have hxg : ∀ (k : Nat) X, Rd ((h'.setTok t k 1).put b X) x w := fun k X => (hx'.leB (AH.leB_setTok _ _ _ _)).put hb X
  have hiw : i < w.length := by omega
  have hxg1 := hxg (nats O).length (i64s (L.set i 0) ++ und)
  simp only [hcw, hi0, rd_ix hxg1, rd_ld hxg1 hiw, F_attribution_Least, g_attribution_Least, go_sem, reduceIte, Nat.reduceEqDiff, Nat.reduceAdd, Nat.reduceMul, Nat.reduceSub, reduceCtorEq, Nat.reduceLeDiff, Nat.reduceLT, Int.reduceLT, Int.reduceLE, Int.reduceToNat, Int.reduceAdd, Int.reduceSub, Int.reduceNeg, Int.reduceMul, Int.reduceEq, ← Bool.decide_and, ← Bool.decide_or, ↓tq_n, ↓tq_e, ↓tq_r, ↓bq_n, ↓bq_e, ↓bq_r, ↓rq_n, ↓rq_r, ↓rq_e]
  refine ⟨by rw [inR64]; omega, CallG.mk (r_attribution_costs m n1 a u1 he hm9 _ _ hwb _ hrd) ?_⟩
  rw [hd' (L.set i 0)]
  by_cases c2 : S + w.getD i 0 + tot m a (L.set i 0) = tot m a w
  · rw [if_pos c2] at hsucc
    have hxg2 := hxg ((nats O).length + 1) (i64s (L.set i 0) ++ und)
    simp only [hz, List.drop_zero, decide_eq_true c2, hcw, hi0, rd_ix hxg2, rd_ld hxg2 hiw, F_attribution_Least, g_attribution_Least, go_sem, reduceIte, Nat.reduceEqDiff, Nat.reduceAdd, Nat.reduceMul, Nat.reduceSub, reduceCtorEq, Nat.reduceLeDiff, Nat.reduceLT, Int.reduceLT, Int.reduceLE, Int.reduceToNat, Int.reduceAdd, Int.reduceSub, Int.reduceNeg, Int.reduceMul, Int.reduceEq, ← Bool.decide_and, ← Bool.decide_or, ↓tq_n, ↓tq_e, ↓tq_r, ↓bq_n, ↓bq_e, ↓bq_r, ↓rq_n, ↓rq_r, ↓rq_e]
    refine ⟨by rw [inR64]; omega, by rw [i64s_len], by omega, by omega, by rw [inR64]; omega, by rw [inR64]; omega, i + 1, by omega, by omega, ?_⟩
    rw [hsucc, nats_append, i64s_append, List.length_append]
    exact (GStep.forget (by repeat' first | exact EnvLe.nil _ | refine EnvLe.cons (AV.le.of_eq rfl) ?_ | refine EnvLe.cons (AV.le.undef _) ?_ | refine EnvLe.cons AV.le.unk ?_) (by repeat' first | exact AH.le.refl _ | assumption | (refine AH.le_put ?_ (by first | assumption | exact (AH.blk_put_ne _ _ (by assumption)).trans (by assumption) | exact AH.none_put (by assumption) | exact AH.none_put (AH.none_put (by assumption)) | (simp only [AH.blk_setTok, AH.tok_put] at *; first | assumption | exact AH.none_put (by assumption)))) | (refine AH.le_setTok ?_ (by first | assumption | exact (AH.blk_put_ne _ _ (by assumption)).trans (by assumption) | exact AH.none_put (by assumption) | exact AH.none_put (AH.none_put (by assumption)) | (simp only [AH.blk_setTok, AH.tok_put] at *; first | assumption | exact AH.none_put (by assumption)))) | (refine AH.le_putM ?_ (by first | assumption | exact (AH.mp_putM_ne _ _ (by assumption)).trans (by assumption) | (simp only [AH.mp_put, AH.mp_setTok] at *; assumption)))))
  · rw [if_neg c2] at hsucc
    simp only [hz, List.drop_zero, c2, hcw, hi0, F_attribution_Least, g_attribution_Least, go_sem, reduceIte, Nat.reduceEqDiff, Nat.reduceAdd, Nat.reduceMul, Nat.reduceSub, reduceCtorEq, Nat.reduceLeDiff, Nat.reduceLT, Int.reduceLT, Int.reduceLE, Int.reduceToNat, Int.reduceAdd, Int.reduceSub, Int.reduceNeg, Int.reduceMul, Int.reduceEq, ← Bool.decide_and, ← Bool.decide_or, ↓tq_n, ↓tq_e, ↓tq_r, ↓bq_n, ↓bq_e, ↓bq_r, ↓rq_n, ↓rq_r, ↓rq_e]
    refine ⟨by rw [inR64]; omega, by rw [List.length_append, i64s_len, List.length_set]; omega, by rw [inR64]; omega, i + 1, by omega, by omega, ?_⟩
    rw [hsucc, hset (L.set i 0) 1000000 (by rw [List.length_set, hLl])]
    exact (GStep.forget (by repeat' first | exact EnvLe.nil _ | refine EnvLe.cons (AV.le.of_eq rfl) ?_ | refine EnvLe.cons (AV.le.undef _) ?_ | refine EnvLe.cons AV.le.unk ?_) (by repeat' first | exact AH.le.refl _ | assumption | (refine AH.le_put ?_ (by first | assumption | exact (AH.blk_put_ne _ _ (by assumption)).trans (by assumption) | exact AH.none_put (by assumption) | exact AH.none_put (AH.none_put (by assumption)) | (simp only [AH.blk_setTok, AH.tok_put] at *; first | assumption | exact AH.none_put (by assumption)))) | (refine AH.le_setTok ?_ (by first | assumption | exact (AH.blk_put_ne _ _ (by assumption)).trans (by assumption) | exact AH.none_put (by assumption) | exact AH.none_put (AH.none_put (by assumption)) | (simp only [AH.blk_setTok, AH.tok_put] at *; first | assumption | exact AH.none_put (by assumption)))) | (refine AH.le_putM ?_ (by first | assumption | exact (AH.mp_putM_ne _ _ (by assumption)).trans (by assumption) | (simp only [AH.mp_put, AH.mp_setTok] at *; assumption)))))

theorem leV_len0 {n : Int} {a : List (Int × Int)} (h : chkE n a [] = 0) : ∃ nl, leV n a [] = .tup [.sl nl 0 (i64s []) .unk, I 0, I 0] := by
  have hok := chk_ok.1 h
  obtain ⟨m, rfl⟩ := ev_nat hok.2.2.1
  have ha : a = [] := List.eq_nil_of_length_eq_zero (by have := hok.2.2.2.1; simpa using this.symm)
  subst ha
  refine ⟨true, ?_⟩
  unfold leV
  rw [if_pos h, Int.toNat_natCast]
  obtain ⟨t1, t2, o, t3, t4, t5⟩ := tot_min (n := m) (okc_w1 hok).ok
  have h0 : tot m ([] : List (Int × Int)) [] = 0 := by rw [← t5]; rfl
  rw [h0]
  rfl
set_option maxHeartbeats 4000000 in
theorem r_law_AttributionMinimal (c : Cs) (at_ more : Int) (h : AH) : RCall Try.prog n_law_AttributionMinimal [.st c.cs, .int .u8 at_, .int .u8 more] h (.bool true) := by
  obtain ⟨n, n1, a, u1, n2, w, u2⟩ := c
  simp only [Cs.cs]
  refine RCall.of hm cF_law_AttributionMinimal (by simp [g_law_AttributionMinimal]) fun hw h' hl => ?_
  have hat := wf_int (hw _ (.tail _ (.head _)))
  have hmo := wf_int (hw _ (.tail _ (.tail _ (.head _))))
  rw [inR8] at hat hmo
  simp only [F_law_AttributionMinimal, g_law_AttributionMinimal, go_sem, reduceIte, Nat.reduceEqDiff, Nat.reduceAdd, Nat.reduceMul, Nat.reduceSub, reduceCtorEq, Nat.reduceLeDiff, Nat.reduceLT, Int.reduceLT, Int.reduceLE, Int.reduceToNat, Int.reduceAdd, Int.reduceSub, Int.reduceNeg, Int.reduceMul, Int.reduceEq, ← Bool.decide_and, ← Bool.decide_or, ↓tq_n, ↓tq_e, ↓tq_r, ↓bq_n, ↓bq_e, ↓bq_r, ↓rq_n, ↓rq_r, ↓rq_e]
  refine CallG.mk (r_law_awake _) ?_
  simp only [F_law_AttributionMinimal, g_law_AttributionMinimal, go_sem, reduceIte, Nat.reduceEqDiff, Nat.reduceAdd, Nat.reduceMul, Nat.reduceSub, reduceCtorEq, Nat.reduceLeDiff, Nat.reduceLT, Int.reduceLT, Int.reduceLE, Int.reduceToNat, Int.reduceAdd, Int.reduceSub, Int.reduceNeg, Int.reduceMul, Int.reduceEq, ← Bool.decide_and, ← Bool.decide_or, ↓tq_n, ↓tq_e, ↓tq_r, ↓bq_n, ↓bq_e, ↓bq_r, ↓rq_n, ↓rq_r, ↓rq_e]
  refine CallG.mk (r_law_few n n1 a u1 n2 w u2 _) ?_
  cases hf : fewC n a w with
  | false =>
    simp only [F_law_AttributionMinimal, g_law_AttributionMinimal, go_sem, reduceIte, Nat.reduceEqDiff, Nat.reduceAdd, Nat.reduceMul, Nat.reduceSub, reduceCtorEq, Nat.reduceLeDiff, Nat.reduceLT, Int.reduceLT, Int.reduceLE, Int.reduceToNat, Int.reduceAdd, Int.reduceSub, Int.reduceNeg, Int.reduceMul, Int.reduceEq, ← Bool.decide_and, ← Bool.decide_or, ↓tq_n, ↓tq_e, ↓tq_r, ↓bq_n, ↓bq_e, ↓bq_r, ↓rq_n, ↓rq_r, ↓rq_e]
    refine CallG.mk (r_law_awake _) ?_
    simp only [F_law_AttributionMinimal, g_law_AttributionMinimal, go_sem, reduceIte, Nat.reduceEqDiff, Nat.reduceAdd, Nat.reduceMul, Nat.reduceSub, reduceCtorEq, Nat.reduceLeDiff, Nat.reduceLT, Int.reduceLT, Int.reduceLE, Int.reduceToNat, Int.reduceAdd, Int.reduceSub, Int.reduceNeg, Int.reduceMul, Int.reduceEq, ← Bool.decide_and, ← Bool.decide_or, ↓tq_n, ↓tq_e, ↓tq_r, ↓bq_n, ↓bq_e, ↓bq_r, ↓rq_n, ↓rq_r, ↓rq_e]
    exact ret_ok rfl
  | true =>
    simp only [F_law_AttributionMinimal, g_law_AttributionMinimal, go_sem, reduceIte, Nat.reduceEqDiff, Nat.reduceAdd, Nat.reduceMul, Nat.reduceSub, reduceCtorEq, Nat.reduceLeDiff, Nat.reduceLT, Int.reduceLT, Int.reduceLE, Int.reduceToNat, Int.reduceAdd, Int.reduceSub, Int.reduceNeg, Int.reduceMul, Int.reduceEq, ← Bool.decide_and, ← Bool.decide_or, ↓tq_n, ↓tq_e, ↓tq_r, ↓bq_n, ↓bq_e, ↓bq_r, ↓rq_n, ↓rq_r, ↓rq_e]
    refine CallG.mk (r_attribution_Least n n1 a u1 n2 w u2 _) ?_
    have hz : ((0 : Nat) : Int) = 0 := by omega
    by_cases c1 : chkE n a w = 0
    case neg =>
      rw [leV_no c1]
      simp only [c1, hz, F_law_AttributionMinimal, g_law_AttributionMinimal, go_sem, reduceIte, Nat.reduceEqDiff, Nat.reduceAdd, Nat.reduceMul, Nat.reduceSub, reduceCtorEq, Nat.reduceLeDiff, Nat.reduceLT, Int.reduceLT, Int.reduceLE, Int.reduceToNat, Int.reduceAdd, Int.reduceSub, Int.reduceNeg, Int.reduceMul, Int.reduceEq, ← Bool.decide_and, ← Bool.decide_or, ↓tq_n, ↓tq_e, ↓tq_r, ↓bq_n, ↓bq_e, ↓bq_r, ↓rq_n, ↓rq_r, ↓rq_e]
      exact ret_ok rfl
    rcases Nat.eq_zero_or_pos w.length with hw0 | hw0
    · have hwe : w = [] := List.eq_nil_of_length_eq_zero hw0
      subst hwe
      obtain ⟨nl, e0⟩ := leV_len0 c1
      rw [e0]
      simp only [List.length_nil, hz, F_law_AttributionMinimal, g_law_AttributionMinimal, go_sem, reduceIte, Nat.reduceEqDiff, Nat.reduceAdd, Nat.reduceMul, Nat.reduceSub, reduceCtorEq, Nat.reduceLeDiff, Nat.reduceLT, Int.reduceLT, Int.reduceLE, Int.reduceToNat, Int.reduceAdd, Int.reduceSub, Int.reduceNeg, Int.reduceMul, Int.reduceEq, ← Bool.decide_and, ← Bool.decide_or, ↓tq_n, ↓tq_e, ↓tq_r, ↓bq_n, ↓bq_e, ↓bq_r, ↓rq_n, ↓rq_r, ↓rq_e]
      exact ret_ok rfl
    have hok := chk_ok.1 c1
    obtain ⟨m, rfl⟩ := ev_nat hok.2.2.1
    have hw1 := okc_w1 hok
    have hal := hok.2.1
    have hwl := hw1.1
    obtain ⟨xl, q, e1, q1⟩ := leV_yes c1
    have hwn : ¬ (w.length : Int) = 0 := by omega
    have hBl := ix_len (Bl_ix a q)
    have hless := fun i hi => less_rp hok q1 (i := i) hi
    rw [e1]
    generalize nats (Bl a q) = s at hBl hless ⊢
    simp only [hwn, F_law_AttributionMinimal, g_law_AttributionMinimal, go_sem, reduceIte, Nat.reduceEqDiff, Nat.reduceAdd, Nat.reduceMul, Nat.reduceSub, reduceCtorEq, Nat.reduceLeDiff, Nat.reduceLT, Int.reduceLT, Int.reduceLE, Int.reduceToNat, Int.reduceAdd, Int.reduceSub, Int.reduceNeg, Int.reduceMul, Int.reduceEq, ← Bool.decide_and, ← Bool.decide_or, ↓tq_n, ↓tq_e, ↓tq_r, ↓bq_n, ↓bq_e, ↓bq_r, ↓rq_n, ↓rq_r, ↓rq_e]
    refine awp_loop (fun i : Nat => [(1, .int .u8 at_), (2, .int .u8 more), (3, .sptr [I m, .sl n1 a.length (prs a) u1, .sl n2 w.length (i64s w) u2]), (7, .sl xl s.length (i64s s) .unk), (8, I (tot m a w)), (10, I i)]) (fun _ => h') (fun i => i ≤ s.length) (fun i => s.length - i) 0 (Nat.zero_le _) (GStep.forget (by repeat' first | exact EnvLe.nil _ | refine EnvLe.cons (AV.le.of_eq rfl) ?_ | refine EnvLe.cons (AV.le.undef _) ?_ | refine EnvLe.cons AV.le.unk ?_) (by repeat' first | exact AH.le.refl _ | assumption | (refine AH.le_put ?_ (by first | assumption | exact (AH.blk_put_ne _ _ (by assumption)).trans (by assumption) | exact AH.none_put (by assumption) | exact AH.none_put (AH.none_put (by assumption)) | (simp only [AH.blk_setTok, AH.tok_put] at *; first | assumption | exact AH.none_put (by assumption)))) | (refine AH.le_setTok ?_ (by first | assumption | exact (AH.blk_put_ne _ _ (by assumption)).trans (by assumption) | exact AH.none_put (by assumption) | exact AH.none_put (AH.none_put (by assumption)) | (simp only [AH.blk_setTok, AH.tok_put] at *; first | assumption | exact AH.none_put (by assumption)))) | (refine AH.le_putM ?_ (by first | assumption | exact (AH.mp_putM_ne _ _ (by assumption)).trans (by assumption) | (simp only [AH.mp_put, AH.mp_setTok] at *; assumption))))) fun i hi => .of_vg hm ?_
    by_cases h3 : i < s.length
    · have hc : (i : Int) < (s.length : Int) := by omega
      have hi1 : ((i : Int) + 1).toNat = i + 1 := by omega
      have e : List.take (i - 0) (i64s s) ++ List.take (s.length - (i + 1)) (List.drop (i + 1) (i64s s)) = i64s (s.eraseIdx i) := by
        rw [Nat.sub_zero, i64s_dropn, List.take_of_length_le (l := i64s (s.drop (i + 1))) (by rw [i64s_len, List.length_drop]; exact Nat.le_refl _), i64s_take, ← i64s_append, List.eraseIdx_eq_take_drop_succ]
      have e2 : i - 0 + (s.length - (i + 1)) = s.length - 1 := by omega
      have hlen : (s.eraseIdx i).length = s.length - 1 := by rw [List.length_eraseIdx, if_pos h3]
      simp only [hc, hi1, F_law_AttributionMinimal, g_law_AttributionMinimal, go_sem, reduceIte, Nat.reduceEqDiff, Nat.reduceAdd, Nat.reduceMul, Nat.reduceSub, reduceCtorEq, Nat.reduceLeDiff, Nat.reduceLT, Int.reduceLT, Int.reduceLE, Int.reduceToNat, Int.reduceAdd, Int.reduceSub, Int.reduceNeg, Int.reduceMul, Int.reduceEq, ← Bool.decide_and, ← Bool.decide_or, ↓tq_n, ↓tq_e, ↓tq_r, ↓bq_n, ↓bq_e, ↓bq_r, ↓rq_n, ↓rq_r, ↓rq_e]
      refine ⟨by omega, by omega, by rw [inR64]; omega, by omega, by omega, by rw [List.length_take, i64s_len]; omega, by omega, by omega, TokG.mk fun t ht => ?_⟩
      simp only [F_law_AttributionMinimal, g_law_AttributionMinimal, go_sem, reduceIte, Nat.reduceEqDiff, Nat.reduceAdd, Nat.reduceMul, Nat.reduceSub, reduceCtorEq, Nat.reduceLeDiff, Nat.reduceLT, Int.reduceLT, Int.reduceLE, Int.reduceToNat, Int.reduceAdd, Int.reduceSub, Int.reduceNeg, Int.reduceMul, Int.reduceEq, ← Bool.decide_and, ← Bool.decide_or, ↓tq_n, ↓tq_e, ↓tq_r, ↓bq_n, ↓bq_e, ↓bq_r, ↓rq_n, ↓rq_r, ↓rq_e]
      rw [e, e2]
      refine ⟨by rw [List.length_take, i64s_len]; omega, by rw [List.length_take, List.length_drop, i64s_len]; omega, by omega, by omega, ?_⟩
      have hc2 := r_attribution_Repairs m n1 a u1 n2 w u2 false (s.eraseIdx i) (.tok t)
      rw [hless i h3, hlen] at hc2
      refine CallG.mk (hc2 _) ?_
      simp only [F_law_AttributionMinimal, g_law_AttributionMinimal, go_sem, reduceIte, Nat.reduceEqDiff, Nat.reduceAdd, Nat.reduceMul, Nat.reduceSub, reduceCtorEq, Nat.reduceLeDiff, Nat.reduceLT, Int.reduceLT, Int.reduceLE, Int.reduceToNat, Int.reduceAdd, Int.reduceSub, Int.reduceNeg, Int.reduceMul, Int.reduceEq, ← Bool.decide_and, ← Bool.decide_or, ↓tq_n, ↓tq_e, ↓tq_r, ↓bq_n, ↓bq_e, ↓bq_r, ↓rq_n, ↓rq_r, ↓rq_e]
      exact ⟨by rw [inR64]; omega, i + 1, by omega, by omega, (GStep.forget (by repeat' first | exact EnvLe.nil _ | refine EnvLe.cons (AV.le.of_eq rfl) ?_ | refine EnvLe.cons (AV.le.undef _) ?_ | refine EnvLe.cons AV.le.unk ?_) (by repeat' first | exact AH.le.refl _ | assumption | (refine AH.le_put ?_ (by first | assumption | exact (AH.blk_put_ne _ _ (by assumption)).trans (by assumption) | exact AH.none_put (by assumption) | exact AH.none_put (AH.none_put (by assumption)) | (simp only [AH.blk_setTok, AH.tok_put] at *; first | assumption | exact AH.none_put (by assumption)))) | (refine AH.le_setTok ?_ (by first | assumption | exact (AH.blk_put_ne _ _ (by assumption)).trans (by assumption) | exact AH.none_put (by assumption) | exact AH.none_put (AH.none_put (by assumption)) | (simp only [AH.blk_setTok, AH.tok_put] at *; first | assumption | exact AH.none_put (by assumption)))) | (refine AH.le_putM ?_ (by first | assumption | exact (AH.mp_putM_ne _ _ (by assumption)).trans (by assumption) | (simp only [AH.mp_put, AH.mp_setTok] at *; assumption)))))⟩
    have h3 : i = s.length := by omega
    subst h3
    obtain ⟨k, hk⟩ : ∃ k, k = at_.toNat % w.length := ⟨_, rfl⟩
    have hkw : k < w.length := by rw [hk]; exact Nat.mod_lt _ hw0
    have hconv : IntKind.wrap .i64 at_ = at_ := wrap_in (by rw [inR64]; omega)
    have hconv2 : IntKind.wrap .i64 more = more := wrap_in (by rw [inR64]; omega)
    have hrem : Int.tmod at_ (w.length : Int) = (k : Int) := by
      have e1 : ((at_.toNat % w.length : Nat) : Int) = (at_.toNat : Int) % (w.length : Int) := by first | exact Int.natCast_emod _ _ | exact Int.ofNat_emod _ _ | simp
      rw [hk, e1, Int.tmod_eq_emod_of_nonneg (by omega), show (at_.toNat : Int) = at_ by omega]
    have hkc : (k : Int) < (w.length : Int) := by omega
    have hk0 : (0 : Int) ≤ (k : Int) := by omega
    have hcz : ((0 + w.length : Nat) : Int) = (w.length : Int) := by omega
    simp only [F_law_AttributionMinimal, g_law_AttributionMinimal, go_sem, reduceIte, Nat.reduceEqDiff, Nat.reduceAdd, Nat.reduceMul, Nat.reduceSub, reduceCtorEq, Nat.reduceLeDiff, Nat.reduceLT, Int.reduceLT, Int.reduceLE, Int.reduceToNat, Int.reduceAdd, Int.reduceSub, Int.reduceNeg, Int.reduceMul, Int.reduceEq, ← Bool.decide_and, ← Bool.decide_or, ↓tq_n, ↓tq_e, ↓tq_r, ↓bq_n, ↓bq_e, ↓bq_r, ↓rq_n, ↓rq_r, ↓rq_e]
    refine ⟨i64s_len _, by omega, by omega, by omega, GrowG.mk fun b q0 hq0 hb => ?_⟩
    generalize hund : List.replicate (q0 - w.length) AV.undef = und
    have hwk := hw1.2.2 k (by omega)
    have hset : ∀ v : Int, (i64s w ++ und).set k (I v) = i64s (w.set k v) ++ und := fun v => by
      rw [List.set_append, if_pos (by rw [i64s_len]; omega), i64s_set]
    have hdr : (i64s w ++ und).drop k = I (w.getD k 0) :: ((i64s w).drop (k + 1) ++ und) := by
      rw [List.drop_append_of_le_length (by rw [i64s_len]; omega), i64s_drop hkw]; rfl
    simp only [hconv, hconv2, hrem, hk0, hkc, Nat.mul_one, Nat.zero_add, hdr, hund, F_law_AttributionMinimal, g_law_AttributionMinimal, go_sem, reduceIte, Nat.reduceEqDiff, Nat.reduceAdd, Nat.reduceMul, Nat.reduceSub, reduceCtorEq, Nat.reduceLeDiff, Nat.reduceLT, Int.reduceLT, Int.reduceLE, Int.reduceToNat, Int.reduceAdd, Int.reduceSub, Int.reduceNeg, Int.reduceMul, Int.reduceEq, ← Bool.decide_and, ← Bool.decide_or, ↓tq_n, ↓tq_e, ↓tq_r, ↓bq_n, ↓bq_e, ↓bq_r, ↓rq_n, ↓rq_r, ↓rq_e]
    refine ⟨by omega, by rw [inR64]; omega, by rw [List.length_append, i64s_len]; omega, ?_⟩
    obtain ⟨v, hv⟩ : ∃ v, v = min 100 (w.getD k 0 + more) := ⟨_, rfl⟩
    rw [← hv, hset]
    have hv1 : w.getD k 0 ≤ v ∧ v ≤ 100 := by omega
    have hw'l : (w.set k v).length = w.length := by simp
    have hsetk : ∀ j, (w.set k v).getD j 0 = if k = j then v else w.getD j 0 := fun j => getD_setI hkw v j
    have c1' : chkE m a (w.set k v) = 0 := chk_ok.2 ⟨hok.1, hok.2.1, hok.2.2.1, by rw [hw'l]; exact hwl, fun j hj => by
      rw [hsetk]
      have := hok.2.2.2.2 j (by rw [← hw'l]; exact hj)
      split <;> omega⟩
    have hw1' := okc_w1 (chk_ok.1 c1')
    have htm := tot_more (n := m) hw1.wb (show k < a.length by omega) hv1.1 hw1'.wb
    obtain ⟨xl', q', e1', q1'⟩ := leV_yes c1'
    have hblk : (h'.put b (i64s (w.set k v) ++ und)).blk b = some (i64s (w.set k v) ++ und) := AH.blk_put _ _ _
    have hRd : Rd (h'.put b (i64s (w.set k v) ++ und)) (.msl b 0 w.length (some q0)) (w.set k v) := .inr ⟨b, some q0, und, by rw [hw'l], hblk⟩
    have hLe := r_attribution_LeastR m n1 a u1 (.msl b 0 w.length (some q0)) (w.set k v) _ hRd (by omega) (fun g hg => by
      have := s_slices_Clone_intM b q0 (w.set k v) und (by omega) (by omega) g (hg.1 _ _ hblk)
      rw [hw'l] at this
      rw [hw'l]
      exact this)
    refine CallG.mk hLe ?_
    rw [e1']
    have hdr2 : (i64s (w.set k v) ++ und).drop k = I v :: ((i64s (w.set k v)).drop (k + 1) ++ und) := by
      rw [List.drop_append_of_le_length (by rw [i64s_len]; omega), i64s_drop (by omega), hsetk, if_pos rfl]; rfl
    have hT := T_bd (n := m) hw1.wb m 0
    have hT' := T_bd (n := m) hw1'.wb m 0
    have hm9 : m ≤ 9 := by have := hok.1; omega
    have g1 : tot m a w ≤ tot m a (w.set k v) := htm.1
    have g2 : tot m a (w.set k v) - tot m a w ≤ v - w.getD k 0 := by omega
    unfold tot at hT hT'
    have b1 : tot m a w = T m a w m 0 := rfl
    have b2 : tot m a (w.set k v) = T m a (w.set k v) m 0 := rfl
    have hmm : (m : Int) * 24000000 ≤ 9 * 24000000 := Int.mul_le_mul_of_nonneg_right (by omega) (by omega)
    simp only [g1, hkc, hk0, Nat.mul_one, Nat.zero_add, hdr2, i64s_drop hkw, g2, F_law_AttributionMinimal, g_law_AttributionMinimal, go_sem, reduceIte, Nat.reduceEqDiff, Nat.reduceAdd, Nat.reduceMul, Nat.reduceSub, reduceCtorEq, Nat.reduceLeDiff, Nat.reduceLT, Int.reduceLT, Int.reduceLE, Int.reduceToNat, Int.reduceAdd, Int.reduceSub, Int.reduceNeg, Int.reduceMul, Int.reduceEq, ← Bool.decide_and, ← Bool.decide_or, ↓tq_n, ↓tq_e, ↓tq_r, ↓bq_n, ↓bq_e, ↓bq_r, ↓rq_n, ↓rq_r, ↓rq_e]
    exact ⟨by rw [inR64]; omega, by rw [inR64]; omega, ret_hb (AH.le_put (AH.le.refl _) hb) rfl⟩
end Go.Proofs.Ytemfmnjhhdeedaa
