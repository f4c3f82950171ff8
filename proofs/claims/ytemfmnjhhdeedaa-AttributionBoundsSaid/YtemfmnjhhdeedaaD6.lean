/- Calls of functions of this seat's program: distances, the length of a shortest cycle, the reference's search. No condition. -/
import Derived.Test.YtemfmnjhhdeedaaZ1
import Derived.Test.YtemfmnjhhdeedaaC1
namespace Go.Proofs.Ytemfmnjhhdeedaa
open Go Go.Abs
set_option linter.unusedSimpArgs false
set_option linter.unusedVariables false
set_option maxRecDepth 20000

theorem i64s_set (xs : List Int) (i : Nat) (v : Int) : i64s (xs.set i v) = (i64s xs).set i (I v) := by simp only [i64s, List.map_set]
theorem r_ref_far (n : Nat) (n1 : Bool) (a : List (Int × Int)) (u1 : Tail) (he : Ev n a) (u v : Nat) (hu : u < n) (hv : v < n) (h : AH) :
    RCall Try.prog n_ref_far [I n, .sl n1 a.length (prs a) u1, I 0, .sl true 0 [] .full, I u, I v] h (I (farZ a u v)) := by
  refine RCall.of hm cF_ref_far (by simp [g_ref_far]) fun hw h' hl => ?_
  have hn : n ≤ 24 := by have := he.2.1; omega
  have ha := he.2.2.1
  have hfn : ∀ k, k < a.length → fr a k < n := fun k hk => (ev_k he hk).2.1
  simp only [F_ref_far, g_ref_far, go_sem, reduceIte, Nat.reduceEqDiff, Nat.reduceAdd, Nat.reduceMul, Nat.reduceSub, reduceCtorEq, Nat.reduceLeDiff, Nat.reduceLT, Int.reduceLT, Int.reduceLE, Int.reduceToNat, Int.reduceAdd, Int.reduceSub, Int.reduceNeg, Int.reduceMul, Int.reduceEq, ← Bool.decide_and, ← Bool.decide_or, ↓tq_n, ↓tq_e, ↓tq_r, ↓bq_n, ↓bq_e, ↓bq_r, ↓rq_n, ↓rq_r, ↓rq_e]
  refine MakeG.mk (by omega) (Int.le_refl _) (by omega) (by omega) fun b hb => ?_
  rw [flat_rep]
  simp only [F_ref_far, g_ref_far, go_sem, reduceIte, Nat.reduceEqDiff, Nat.reduceAdd, Nat.reduceMul, Nat.reduceSub, reduceCtorEq, Nat.reduceLeDiff, Nat.reduceLT, Int.reduceLT, Int.reduceLE, Int.reduceToNat, Int.reduceAdd, Int.reduceSub, Int.reduceNeg, Int.reduceMul, Int.reduceEq, ← Bool.decide_and, ← Bool.decide_or, ↓tq_n, ↓tq_e, ↓tq_r, ↓bq_n, ↓bq_e, ↓bq_r, ↓rq_n, ↓rq_r, ↓rq_e]
  refine awp_loop (α := Nat × List Int) (fun y => [(0, I n), (1, .sl n1 a.length (prs a) u1), (2, I 0), (3, .sl true 0 [] .full), (4, I u), (5, I v), (13, .msl b 0 n (some n)), (14, I y.1)]) (fun y => h'.put b (i64s y.2)) (fun y => y.1 ≤ n ∧ y.2.length = n ∧ ∀ x, x < y.1 → y.2.getD x 0 = -1) (fun y => n - y.1) (0, List.replicate n 0) ⟨Nat.zero_le _, by simp, fun j hj => absurd hj (Nat.not_lt_zero _)⟩ (by simp only [i64s, List.map_replicate]; exact (GStep.forget (by repeat' first | exact EnvLe.nil _ | refine EnvLe.cons (AV.le.of_eq rfl) ?_ | refine EnvLe.cons (AV.le.undef _) ?_ | refine EnvLe.cons AV.le.unk ?_) (by repeat' first | exact AH.le.refl _ | assumption | (refine AH.le_put ?_ (by first | assumption | exact (AH.blk_put_ne _ _ (by assumption)).trans (by assumption) | exact AH.none_put (by assumption) | exact AH.none_put (AH.none_put (by assumption)) | (simp only [AH.blk_setTok, AH.tok_put] at *; first | assumption | exact AH.none_put (by assumption)))) | (refine AH.le_setTok ?_ (by first | assumption | exact (AH.blk_put_ne _ _ (by assumption)).trans (by assumption) | exact AH.none_put (by assumption) | exact AH.none_put (AH.none_put (by assumption)) | (simp only [AH.blk_setTok, AH.tok_put] at *; first | assumption | exact AH.none_put (by assumption)))) | (refine AH.le_putM ?_ (by first | assumption | exact (AH.mp_putM_ne _ _ (by assumption)).trans (by assumption) | (simp only [AH.mp_put, AH.mp_setTok] at *; assumption)))))) fun y hy => .of_vg hm ?_
  obtain ⟨i, d⟩ := y
  obtain ⟨h1, h2, h3⟩ := hy
  simp only at h1 h2 h3 ⊢
  by_cases h5 : i < n
  · have hc : (i : Int) < (n : Int) := by omega
    simp only [hc, F_ref_far, g_ref_far, go_sem, reduceIte, Nat.reduceEqDiff, Nat.reduceAdd, Nat.reduceMul, Nat.reduceSub, reduceCtorEq, Nat.reduceLeDiff, Nat.reduceLT, Int.reduceLT, Int.reduceLE, Int.reduceToNat, Int.reduceAdd, Int.reduceSub, Int.reduceNeg, Int.reduceMul, Int.reduceEq, ← Bool.decide_and, ← Bool.decide_or, ↓tq_n, ↓tq_e, ↓tq_r, ↓bq_n, ↓bq_e, ↓bq_r, ↓rq_n, ↓rq_r, ↓rq_e]
    refine ⟨by rw [i64s_len]; omega, by rw [inR64]; omega, (i + 1, d.set i (-1)), ⟨by simp only; omega, by simp only [List.length_set]; exact h2, fun x hx => ?_⟩, by simp only; omega, ?_⟩
    · simp only at hx ⊢
      rw [getD_setI (by omega)]
      by_cases hix : i = x
      · rw [if_pos hix]
      · rw [if_neg hix]; exact h3 x (by omega)
    · rw [i64s_set]
      exact (GStep.forget (by repeat' first | exact EnvLe.nil _ | refine EnvLe.cons (AV.le.of_eq rfl) ?_ | refine EnvLe.cons (AV.le.undef _) ?_ | refine EnvLe.cons AV.le.unk ?_) (by repeat' first | exact AH.le.refl _ | assumption | (refine AH.le_put ?_ (by first | assumption | exact (AH.blk_put_ne _ _ (by assumption)).trans (by assumption) | exact AH.none_put (by assumption) | exact AH.none_put (AH.none_put (by assumption)) | (simp only [AH.blk_setTok, AH.tok_put] at *; first | assumption | exact AH.none_put (by assumption)))) | (refine AH.le_setTok ?_ (by first | assumption | exact (AH.blk_put_ne _ _ (by assumption)).trans (by assumption) | exact AH.none_put (by assumption) | exact AH.none_put (AH.none_put (by assumption)) | (simp only [AH.blk_setTok, AH.tok_put] at *; first | assumption | exact AH.none_put (by assumption)))) | (refine AH.le_putM ?_ (by first | assumption | exact (AH.mp_putM_ne _ _ (by assumption)).trans (by assumption) | (simp only [AH.mp_put, AH.mp_setTok] at *; assumption)))))
  have h5 : i = n := by omega
  subst h5
  have hd : d = List.replicate i (-1) := getD_gext 0 (by rw [h2]; simp) fun j hj => by
    rw [h3 j (by omega)]; simp [List.getD, show j < i by omega]
  subst hd
  have hui : (u : Int) < (i : Int) := by omega
  simp only [hui, F_ref_far, g_ref_far, go_sem, reduceIte, Nat.reduceEqDiff, Nat.reduceAdd, Nat.reduceMul, Nat.reduceSub, reduceCtorEq, Nat.reduceLeDiff, Nat.reduceLT, Int.reduceLT, Int.reduceLE, Int.reduceToNat, Int.reduceAdd, Int.reduceSub, Int.reduceNeg, Int.reduceMul, Int.reduceEq, ← Bool.decide_and, ← Bool.decide_or, ↓tq_n, ↓tq_e, ↓tq_r, ↓bq_n, ↓bq_e, ↓bq_r, ↓rq_n, ↓rq_r, ↓rq_e]
  refine ⟨by rw [i64s_len]; omega, ?_⟩
  refine awp_loop (α := Nat × List Int) (fun y => [(0, I i), (1, .sl n1 a.length (prs a) u1), (2, I 0), (3, .sl true 0 [] .full), (5, I v), (13, .msl b 0 i (some i)), (15, I y.1)]) (fun y => h'.put b (i64s y.2)) (fun y => y.1 ≤ i ∧ FarT i a u y.1 y.2) (fun y => i - y.1) (0, (List.replicate i (-1)).set u 0) ⟨Nat.zero_le _, farT_zero hu⟩ (by rw [i64s_set]; exact (GStep.forget (by repeat' first | exact EnvLe.nil _ | refine EnvLe.cons (AV.le.of_eq rfl) ?_ | refine EnvLe.cons (AV.le.undef _) ?_ | refine EnvLe.cons AV.le.unk ?_) (by repeat' first | exact AH.le.refl _ | assumption | (refine AH.le_put ?_ (by first | assumption | exact (AH.blk_put_ne _ _ (by assumption)).trans (by assumption) | exact AH.none_put (by assumption) | exact AH.none_put (AH.none_put (by assumption)) | (simp only [AH.blk_setTok, AH.tok_put] at *; first | assumption | exact AH.none_put (by assumption)))) | (refine AH.le_setTok ?_ (by first | assumption | exact (AH.blk_put_ne _ _ (by assumption)).trans (by assumption) | exact AH.none_put (by assumption) | exact AH.none_put (AH.none_put (by assumption)) | (simp only [AH.blk_setTok, AH.tok_put] at *; first | assumption | exact AH.none_put (by assumption)))) | (refine AH.le_putM ?_ (by first | assumption | exact (AH.mp_putM_ne _ _ (by assumption)).trans (by assumption) | (simp only [AH.mp_put, AH.mp_setTok] at *; assumption)))))) fun y hy => .of_vg hm ?_
  obtain ⟨k, d⟩ := y
  obtain ⟨h1, h2⟩ := hy
  simp only at h1 h2 ⊢
  by_cases h5 : k < i
  · have hc : (k : Int) < (i : Int) := by omega
    simp only [hc, F_ref_far, g_ref_far, go_sem, reduceIte, Nat.reduceEqDiff, Nat.reduceAdd, Nat.reduceMul, Nat.reduceSub, reduceCtorEq, Nat.reduceLeDiff, Nat.reduceLT, Int.reduceLT, Int.reduceLE, Int.reduceToNat, Int.reduceAdd, Int.reduceSub, Int.reduceNeg, Int.reduceMul, Int.reduceEq, ← Bool.decide_and, ← Bool.decide_or, ↓tq_n, ↓tq_e, ↓tq_r, ↓bq_n, ↓bq_e, ↓bq_r, ↓rq_n, ↓rq_r, ↓rq_e]
    refine awp_loop (α := Nat × List Int) (fun y => [(0, I i), (1, .sl n1 a.length (prs a) u1), (2, I 0), (3, .sl true 0 [] .full), (5, I v), (13, .msl b 0 i (some i)), (15, I k), (16, I y.1)]) (fun y => h'.put b (i64s y.2)) (fun y => y.1 ≤ a.length ∧ FarI i a u k y.1 y.2) (fun y => a.length - y.1) (0, d) ⟨Nat.zero_le _, farI_zero h2⟩ (GStep.forget (by repeat' first | exact EnvLe.nil _ | refine EnvLe.cons (AV.le.of_eq rfl) ?_ | refine EnvLe.cons (AV.le.undef _) ?_ | refine EnvLe.cons AV.le.unk ?_) (by repeat' first | exact AH.le.refl _ | assumption | (refine AH.le_put ?_ (by first | assumption | exact (AH.blk_put_ne _ _ (by assumption)).trans (by assumption) | exact AH.none_put (by assumption) | exact AH.none_put (AH.none_put (by assumption)) | (simp only [AH.blk_setTok, AH.tok_put] at *; first | assumption | exact AH.none_put (by assumption)))) | (refine AH.le_setTok ?_ (by first | assumption | exact (AH.blk_put_ne _ _ (by assumption)).trans (by assumption) | exact AH.none_put (by assumption) | exact AH.none_put (AH.none_put (by assumption)) | (simp only [AH.blk_setTok, AH.tok_put] at *; first | assumption | exact AH.none_put (by assumption)))) | (refine AH.le_putM ?_ (by first | assumption | exact (AH.mp_putM_ne _ _ (by assumption)).trans (by assumption) | (simp only [AH.mp_put, AH.mp_setTok] at *; assumption))))) fun y hy => .of_vg hm ?_
    obtain ⟨j, d⟩ := y
    obtain ⟨h6, h7⟩ := hy
    simp only at h6 h7 ⊢
    by_cases h8 : j < a.length
    · have hcj : (j : Int) < (a.length : Int) := by omega
      have hj0 : (0 : Int) ≤ (j : Int) := by omega
      obtain ⟨e1, e2, e3, e4⟩ := ev_k he h8
      have hdl := h7.1
      have f1 : fr a j < d.length := by omega
      have f2 : tt a j < d.length := by omega
      by_cases c1 : d.getD (fr a j) 0 = k
      · by_cases c2 : d.getD (tt a j) 0 < 0
        · simp only [hcj, hj0, prs_drop h8, e1, i64s_drop f1, i64s_drop f2, c1, c2, F_ref_far, g_ref_far, go_sem, reduceIte, Nat.reduceEqDiff, Nat.reduceAdd, Nat.reduceMul, Nat.reduceSub, reduceCtorEq, Nat.reduceLeDiff, Nat.reduceLT, Int.reduceLT, Int.reduceLE, Int.reduceToNat, Int.reduceAdd, Int.reduceSub, Int.reduceNeg, Int.reduceMul, Int.reduceEq, ← Bool.decide_and, ← Bool.decide_or, ↓tq_n, ↓tq_e, ↓tq_r, ↓bq_n, ↓bq_e, ↓bq_r, ↓rq_n, ↓rq_r, ↓rq_e]
          refine ⟨by omega, by omega, by rw [inR64]; omega, by omega, by rw [i64s_len]; omega, by rw [inR64]; omega, (j + 1, d.set (tt a j) ((k : Int) + 1)), ⟨by simp only; omega, farI_yes h7 c1 c2 e2 e3 h8⟩, by simp only; omega, ?_⟩
          rw [i64s_set]
          exact (GStep.forget (by repeat' first | exact EnvLe.nil _ | refine EnvLe.cons (AV.le.of_eq rfl) ?_ | refine EnvLe.cons (AV.le.undef _) ?_ | refine EnvLe.cons AV.le.unk ?_) (by repeat' first | exact AH.le.refl _ | assumption | (refine AH.le_put ?_ (by first | assumption | exact (AH.blk_put_ne _ _ (by assumption)).trans (by assumption) | exact AH.none_put (by assumption) | exact AH.none_put (AH.none_put (by assumption)) | (simp only [AH.blk_setTok, AH.tok_put] at *; first | assumption | exact AH.none_put (by assumption)))) | (refine AH.le_setTok ?_ (by first | assumption | exact (AH.blk_put_ne _ _ (by assumption)).trans (by assumption) | exact AH.none_put (by assumption) | exact AH.none_put (AH.none_put (by assumption)) | (simp only [AH.blk_setTok, AH.tok_put] at *; first | assumption | exact AH.none_put (by assumption)))) | (refine AH.le_putM ?_ (by first | assumption | exact (AH.mp_putM_ne _ _ (by assumption)).trans (by assumption) | (simp only [AH.mp_put, AH.mp_setTok] at *; assumption)))))
        · simp only [hcj, hj0, prs_drop h8, e1, i64s_drop f1, i64s_drop f2, c1, c2, F_ref_far, g_ref_far, go_sem, reduceIte, Nat.reduceEqDiff, Nat.reduceAdd, Nat.reduceMul, Nat.reduceSub, reduceCtorEq, Nat.reduceLeDiff, Nat.reduceLT, Int.reduceLT, Int.reduceLE, Int.reduceToNat, Int.reduceAdd, Int.reduceSub, Int.reduceNeg, Int.reduceMul, Int.reduceEq, ← Bool.decide_and, ← Bool.decide_or, ↓tq_n, ↓tq_e, ↓tq_r, ↓bq_n, ↓bq_e, ↓bq_r, ↓rq_n, ↓rq_r, ↓rq_e]
          exact ⟨by omega, by omega, by rw [inR64]; omega, (j + 1, d), ⟨by simp only; omega, farI_no h7 (fun hh => c2 hh.2) e2⟩, by simp only; omega, (GStep.forget (by repeat' first | exact EnvLe.nil _ | refine EnvLe.cons (AV.le.of_eq rfl) ?_ | refine EnvLe.cons (AV.le.undef _) ?_ | refine EnvLe.cons AV.le.unk ?_) (by repeat' first | exact AH.le.refl _ | assumption | (refine AH.le_put ?_ (by first | assumption | exact (AH.blk_put_ne _ _ (by assumption)).trans (by assumption) | exact AH.none_put (by assumption) | exact AH.none_put (AH.none_put (by assumption)) | (simp only [AH.blk_setTok, AH.tok_put] at *; first | assumption | exact AH.none_put (by assumption)))) | (refine AH.le_setTok ?_ (by first | assumption | exact (AH.blk_put_ne _ _ (by assumption)).trans (by assumption) | exact AH.none_put (by assumption) | exact AH.none_put (AH.none_put (by assumption)) | (simp only [AH.blk_setTok, AH.tok_put] at *; first | assumption | exact AH.none_put (by assumption)))) | (refine AH.le_putM ?_ (by first | assumption | exact (AH.mp_putM_ne _ _ (by assumption)).trans (by assumption) | (simp only [AH.mp_put, AH.mp_setTok] at *; assumption)))))⟩
      · simp only [hcj, hj0, prs_drop h8, e1, i64s_drop f1, c1, F_ref_far, g_ref_far, go_sem, reduceIte, Nat.reduceEqDiff, Nat.reduceAdd, Nat.reduceMul, Nat.reduceSub, reduceCtorEq, Nat.reduceLeDiff, Nat.reduceLT, Int.reduceLT, Int.reduceLE, Int.reduceToNat, Int.reduceAdd, Int.reduceSub, Int.reduceNeg, Int.reduceMul, Int.reduceEq, ← Bool.decide_and, ← Bool.decide_or, ↓tq_n, ↓tq_e, ↓tq_r, ↓bq_n, ↓bq_e, ↓bq_r, ↓rq_n, ↓rq_r, ↓rq_e]
        exact ⟨by omega, by rw [inR64]; omega, (j + 1, d), ⟨by simp only; omega, farI_no h7 (fun hh => c1 hh.1) e2⟩, by simp only; omega, (GStep.forget (by repeat' first | exact EnvLe.nil _ | refine EnvLe.cons (AV.le.of_eq rfl) ?_ | refine EnvLe.cons (AV.le.undef _) ?_ | refine EnvLe.cons AV.le.unk ?_) (by repeat' first | exact AH.le.refl _ | assumption | (refine AH.le_put ?_ (by first | assumption | exact (AH.blk_put_ne _ _ (by assumption)).trans (by assumption) | exact AH.none_put (by assumption) | exact AH.none_put (AH.none_put (by assumption)) | (simp only [AH.blk_setTok, AH.tok_put] at *; first | assumption | exact AH.none_put (by assumption)))) | (refine AH.le_setTok ?_ (by first | assumption | exact (AH.blk_put_ne _ _ (by assumption)).trans (by assumption) | exact AH.none_put (by assumption) | exact AH.none_put (AH.none_put (by assumption)) | (simp only [AH.blk_setTok, AH.tok_put] at *; first | assumption | exact AH.none_put (by assumption)))) | (refine AH.le_putM ?_ (by first | assumption | exact (AH.mp_putM_ne _ _ (by assumption)).trans (by assumption) | (simp only [AH.mp_put, AH.mp_setTok] at *; assumption)))))⟩
    have h8 : j = a.length := by omega
    subst h8
    simp only [F_ref_far, g_ref_far, go_sem, reduceIte, Nat.reduceEqDiff, Nat.reduceAdd, Nat.reduceMul, Nat.reduceSub, reduceCtorEq, Nat.reduceLeDiff, Nat.reduceLT, Int.reduceLT, Int.reduceLE, Int.reduceToNat, Int.reduceAdd, Int.reduceSub, Int.reduceNeg, Int.reduceMul, Int.reduceEq, ← Bool.decide_and, ← Bool.decide_or, ↓tq_n, ↓tq_e, ↓tq_r, ↓bq_n, ↓bq_e, ↓bq_r, ↓rq_n, ↓rq_r, ↓rq_e]
    exact ⟨by rw [inR64]; omega, (k + 1, d), ⟨by simp only; omega, farI_end h7⟩, by simp only; omega, (GStep.forget (by repeat' first | exact EnvLe.nil _ | refine EnvLe.cons (AV.le.of_eq rfl) ?_ | refine EnvLe.cons (AV.le.undef _) ?_ | refine EnvLe.cons AV.le.unk ?_) (by repeat' first | exact AH.le.refl _ | assumption | (refine AH.le_put ?_ (by first | assumption | exact (AH.blk_put_ne _ _ (by assumption)).trans (by assumption) | exact AH.none_put (by assumption) | exact AH.none_put (AH.none_put (by assumption)) | (simp only [AH.blk_setTok, AH.tok_put] at *; first | assumption | exact AH.none_put (by assumption)))) | (refine AH.le_setTok ?_ (by first | assumption | exact (AH.blk_put_ne _ _ (by assumption)).trans (by assumption) | exact AH.none_put (by assumption) | exact AH.none_put (AH.none_put (by assumption)) | (simp only [AH.blk_setTok, AH.tok_put] at *; first | assumption | exact AH.none_put (by assumption)))) | (refine AH.le_putM ?_ (by first | assumption | exact (AH.mp_putM_ne _ _ (by assumption)).trans (by assumption) | (simp only [AH.mp_put, AH.mp_setTok] at *; assumption)))))⟩
  have h5 : k = i := by omega
  subst h5
  have hdl := h2.1
  simp only [i64s_drop (show v < d.length by omega), F_ref_far, g_ref_far, go_sem, reduceIte, Nat.reduceEqDiff, Nat.reduceAdd, Nat.reduceMul, Nat.reduceSub, reduceCtorEq, Nat.reduceLeDiff, Nat.reduceLT, Int.reduceLT, Int.reduceLE, Int.reduceToNat, Int.reduceAdd, Int.reduceSub, Int.reduceNeg, Int.reduceMul, Int.reduceEq, ← Bool.decide_and, ← Bool.decide_or, ↓tq_n, ↓tq_e, ↓tq_r, ↓bq_n, ↓bq_e, ↓bq_r, ↓rq_n, ↓rq_r, ↓rq_e]
  refine ⟨by omega, ?_⟩
  exact ret_hb (AH.le_put (.refl _) hb) (by rw [farT_end hfn h2 hv])
theorem r_ref_girth (n : Nat) (n1 : Bool) (a : List (Int × Int)) (u1 : Tail) (he : Ev n a) (h : AH) : RCall Try.prog n_ref_girth [I n, .sl n1 a.length (prs a) u1] h (I (giK a a.length)) := by
  refine RCall.of hm cF_ref_girth (by simp [g_ref_girth]) fun hw h' hl => ?_
  have hn : n ≤ 24 := by have := he.2.1; omega
  have ha := he.2.2.1
  simp only [F_ref_girth, g_ref_girth, go_sem, reduceIte, Nat.reduceEqDiff, Nat.reduceAdd, Nat.reduceMul, Nat.reduceSub, reduceCtorEq, Nat.reduceLeDiff, Nat.reduceLT, Int.reduceLT, Int.reduceLE, Int.reduceToNat, Int.reduceAdd, Int.reduceSub, Int.reduceNeg, Int.reduceMul, Int.reduceEq, ← Bool.decide_and, ← Bool.decide_or, ↓tq_n, ↓tq_e, ↓tq_r, ↓bq_n, ↓bq_e, ↓bq_r, ↓rq_n, ↓rq_r, ↓rq_e]
  refine awp_loop (fun i : Nat => [(0, I n), (1, .sl n1 a.length (prs a) u1), (5, I (giK a i)), (6, I i)]) (fun _ => h') (fun i => i ≤ a.length) (fun i => a.length - i) 0 (Nat.zero_le _) (GStep.forget (by repeat' first | exact EnvLe.nil _ | refine EnvLe.cons (AV.le.of_eq rfl) ?_ | refine EnvLe.cons (AV.le.undef _) ?_ | refine EnvLe.cons AV.le.unk ?_) (by repeat' first | exact AH.le.refl _ | assumption | (refine AH.le_put ?_ (by first | assumption | exact (AH.blk_put_ne _ _ (by assumption)).trans (by assumption) | exact AH.none_put (by assumption) | exact AH.none_put (AH.none_put (by assumption)) | (simp only [AH.blk_setTok, AH.tok_put] at *; first | assumption | exact AH.none_put (by assumption)))) | (refine AH.le_setTok ?_ (by first | assumption | exact (AH.blk_put_ne _ _ (by assumption)).trans (by assumption) | exact AH.none_put (by assumption) | exact AH.none_put (AH.none_put (by assumption)) | (simp only [AH.blk_setTok, AH.tok_put] at *; first | assumption | exact AH.none_put (by assumption)))) | (refine AH.le_putM ?_ (by first | assumption | exact (AH.mp_putM_ne _ _ (by assumption)).trans (by assumption) | (simp only [AH.mp_put, AH.mp_setTok] at *; assumption))))) fun i hi => .of_vg hm ?_
  by_cases h8 : i < a.length
  · have hcj : (i : Int) < (a.length : Int) := by omega
    obtain ⟨e1, e2, e3, e4⟩ := ev_k he h8
    simp only [hcj, prs_drop h8, e1, F_ref_girth, g_ref_girth, go_sem, reduceIte, Nat.reduceEqDiff, Nat.reduceAdd, Nat.reduceMul, Nat.reduceSub, reduceCtorEq, Nat.reduceLeDiff, Nat.reduceLT, Int.reduceLT, Int.reduceLE, Int.reduceToNat, Int.reduceAdd, Int.reduceSub, Int.reduceNeg, Int.reduceMul, Int.reduceEq, ← Bool.decide_and, ← Bool.decide_or, ↓tq_n, ↓tq_e, ↓tq_r, ↓bq_n, ↓bq_e, ↓bq_r, ↓rq_n, ↓rq_r, ↓rq_e]
    refine CallG.mk (r_ref_far n n1 a u1 he (tt a i) (fr a i) e3 e2 _) ?_
    have hsp : farZ a (tt a i) (fr a i) ≤ 24 := by
      rcases farZ_spec a (tt a i) (fr a i) with ⟨k1, k2⟩ | ⟨L, k1, k2, k3⟩
      · omega
      · obtain ⟨ks, w1, w2, w3⟩ := k2
        obtain ⟨q, q1, q2, q3, q4⟩ := iw_short (fun k hk => (ev_k he hk).2.1) e2 w2
        rcases Nat.lt_or_ge q.length L with h9 | h9
        · exact absurd ⟨q, rfl, q4, fun _ _ => Nat.zero_le _⟩ (k3 _ h9)
        · omega
    have hgk : giK a (i + 1) = if 0 ≤ farZ a (tt a i) (fr a i) ∧ (giK a i = 0 ∨ farZ a (tt a i) (fr a i) + 1 < giK a i) then farZ a (tt a i) (fr a i) + 1 else giK a i := rfl
    generalize farZ a (tt a i) (fr a i) = f at hsp hgk ⊢
    by_cases c1 : 0 ≤ f
    · by_cases c2 : giK a i = 0
      · rw [if_pos ⟨c1, .inl c2⟩] at hgk
        simp only [c1, c2, F_ref_girth, g_ref_girth, go_sem, reduceIte, Nat.reduceEqDiff, Nat.reduceAdd, Nat.reduceMul, Nat.reduceSub, reduceCtorEq, Nat.reduceLeDiff, Nat.reduceLT, Int.reduceLT, Int.reduceLE, Int.reduceToNat, Int.reduceAdd, Int.reduceSub, Int.reduceNeg, Int.reduceMul, Int.reduceEq, ← Bool.decide_and, ← Bool.decide_or, ↓tq_n, ↓tq_e, ↓tq_r, ↓bq_n, ↓bq_e, ↓bq_r, ↓rq_n, ↓rq_r, ↓rq_e]
        refine ⟨by rw [inR64]; omega, by rw [inR64]; omega, i + 1, by omega, by omega, ?_⟩
        rw [hgk]; exact (GStep.forget (by repeat' first | exact EnvLe.nil _ | refine EnvLe.cons (AV.le.of_eq rfl) ?_ | refine EnvLe.cons (AV.le.undef _) ?_ | refine EnvLe.cons AV.le.unk ?_) (by repeat' first | exact AH.le.refl _ | assumption | (refine AH.le_put ?_ (by first | assumption | exact (AH.blk_put_ne _ _ (by assumption)).trans (by assumption) | exact AH.none_put (by assumption) | exact AH.none_put (AH.none_put (by assumption)) | (simp only [AH.blk_setTok, AH.tok_put] at *; first | assumption | exact AH.none_put (by assumption)))) | (refine AH.le_setTok ?_ (by first | assumption | exact (AH.blk_put_ne _ _ (by assumption)).trans (by assumption) | exact AH.none_put (by assumption) | exact AH.none_put (AH.none_put (by assumption)) | (simp only [AH.blk_setTok, AH.tok_put] at *; first | assumption | exact AH.none_put (by assumption)))) | (refine AH.le_putM ?_ (by first | assumption | exact (AH.mp_putM_ne _ _ (by assumption)).trans (by assumption) | (simp only [AH.mp_put, AH.mp_setTok] at *; assumption)))))
      · by_cases c3 : f + 1 < giK a i
        · rw [if_pos ⟨c1, .inr c3⟩] at hgk
          simp only [c1, c2, c3, F_ref_girth, g_ref_girth, go_sem, reduceIte, Nat.reduceEqDiff, Nat.reduceAdd, Nat.reduceMul, Nat.reduceSub, reduceCtorEq, Nat.reduceLeDiff, Nat.reduceLT, Int.reduceLT, Int.reduceLE, Int.reduceToNat, Int.reduceAdd, Int.reduceSub, Int.reduceNeg, Int.reduceMul, Int.reduceEq, ← Bool.decide_and, ← Bool.decide_or, ↓tq_n, ↓tq_e, ↓tq_r, ↓bq_n, ↓bq_e, ↓bq_r, ↓rq_n, ↓rq_r, ↓rq_e]
          refine ⟨by rw [inR64]; omega, by rw [inR64]; omega, by rw [inR64]; omega, i + 1, by omega, by omega, ?_⟩
          rw [hgk]; exact (GStep.forget (by repeat' first | exact EnvLe.nil _ | refine EnvLe.cons (AV.le.of_eq rfl) ?_ | refine EnvLe.cons (AV.le.undef _) ?_ | refine EnvLe.cons AV.le.unk ?_) (by repeat' first | exact AH.le.refl _ | assumption | (refine AH.le_put ?_ (by first | assumption | exact (AH.blk_put_ne _ _ (by assumption)).trans (by assumption) | exact AH.none_put (by assumption) | exact AH.none_put (AH.none_put (by assumption)) | (simp only [AH.blk_setTok, AH.tok_put] at *; first | assumption | exact AH.none_put (by assumption)))) | (refine AH.le_setTok ?_ (by first | assumption | exact (AH.blk_put_ne _ _ (by assumption)).trans (by assumption) | exact AH.none_put (by assumption) | exact AH.none_put (AH.none_put (by assumption)) | (simp only [AH.blk_setTok, AH.tok_put] at *; first | assumption | exact AH.none_put (by assumption)))) | (refine AH.le_putM ?_ (by first | assumption | exact (AH.mp_putM_ne _ _ (by assumption)).trans (by assumption) | (simp only [AH.mp_put, AH.mp_setTok] at *; assumption)))))
        · rw [if_neg (fun hh => by omega)] at hgk
          simp only [c1, c2, c3, F_ref_girth, g_ref_girth, go_sem, reduceIte, Nat.reduceEqDiff, Nat.reduceAdd, Nat.reduceMul, Nat.reduceSub, reduceCtorEq, Nat.reduceLeDiff, Nat.reduceLT, Int.reduceLT, Int.reduceLE, Int.reduceToNat, Int.reduceAdd, Int.reduceSub, Int.reduceNeg, Int.reduceMul, Int.reduceEq, ← Bool.decide_and, ← Bool.decide_or, ↓tq_n, ↓tq_e, ↓tq_r, ↓bq_n, ↓bq_e, ↓bq_r, ↓rq_n, ↓rq_r, ↓rq_e]
          refine ⟨by rw [inR64]; omega, by rw [inR64]; omega, i + 1, by omega, by omega, ?_⟩
          rw [hgk]; exact (GStep.forget (by repeat' first | exact EnvLe.nil _ | refine EnvLe.cons (AV.le.of_eq rfl) ?_ | refine EnvLe.cons (AV.le.undef _) ?_ | refine EnvLe.cons AV.le.unk ?_) (by repeat' first | exact AH.le.refl _ | assumption | (refine AH.le_put ?_ (by first | assumption | exact (AH.blk_put_ne _ _ (by assumption)).trans (by assumption) | exact AH.none_put (by assumption) | exact AH.none_put (AH.none_put (by assumption)) | (simp only [AH.blk_setTok, AH.tok_put] at *; first | assumption | exact AH.none_put (by assumption)))) | (refine AH.le_setTok ?_ (by first | assumption | exact (AH.blk_put_ne _ _ (by assumption)).trans (by assumption) | exact AH.none_put (by assumption) | exact AH.none_put (AH.none_put (by assumption)) | (simp only [AH.blk_setTok, AH.tok_put] at *; first | assumption | exact AH.none_put (by assumption)))) | (refine AH.le_putM ?_ (by first | assumption | exact (AH.mp_putM_ne _ _ (by assumption)).trans (by assumption) | (simp only [AH.mp_put, AH.mp_setTok] at *; assumption)))))
    · rw [if_neg (fun hh => c1 hh.1)] at hgk
      simp only [c1, F_ref_girth, g_ref_girth, go_sem, reduceIte, Nat.reduceEqDiff, Nat.reduceAdd, Nat.reduceMul, Nat.reduceSub, reduceCtorEq, Nat.reduceLeDiff, Nat.reduceLT, Int.reduceLT, Int.reduceLE, Int.reduceToNat, Int.reduceAdd, Int.reduceSub, Int.reduceNeg, Int.reduceMul, Int.reduceEq, ← Bool.decide_and, ← Bool.decide_or, ↓tq_n, ↓tq_e, ↓tq_r, ↓bq_n, ↓bq_e, ↓bq_r, ↓rq_n, ↓rq_r, ↓rq_e]
      refine ⟨by rw [inR64]; omega, i + 1, by omega, by omega, ?_⟩
      rw [hgk]; exact (GStep.forget (by repeat' first | exact EnvLe.nil _ | refine EnvLe.cons (AV.le.of_eq rfl) ?_ | refine EnvLe.cons (AV.le.undef _) ?_ | refine EnvLe.cons AV.le.unk ?_) (by repeat' first | exact AH.le.refl _ | assumption | (refine AH.le_put ?_ (by first | assumption | exact (AH.blk_put_ne _ _ (by assumption)).trans (by assumption) | exact AH.none_put (by assumption) | exact AH.none_put (AH.none_put (by assumption)) | (simp only [AH.blk_setTok, AH.tok_put] at *; first | assumption | exact AH.none_put (by assumption)))) | (refine AH.le_setTok ?_ (by first | assumption | exact (AH.blk_put_ne _ _ (by assumption)).trans (by assumption) | exact AH.none_put (by assumption) | exact AH.none_put (AH.none_put (by assumption)) | (simp only [AH.blk_setTok, AH.tok_put] at *; first | assumption | exact AH.none_put (by assumption)))) | (refine AH.le_putM ?_ (by first | assumption | exact (AH.mp_putM_ne _ _ (by assumption)).trans (by assumption) | (simp only [AH.mp_put, AH.mp_setTok] at *; assumption)))))
  have h8 : i = a.length := by omega
  subst h8
  simp only [F_ref_girth, g_ref_girth, go_sem, reduceIte, Nat.reduceEqDiff, Nat.reduceAdd, Nat.reduceMul, Nat.reduceSub, reduceCtorEq, Nat.reduceLeDiff, Nat.reduceLT, Int.reduceLT, Int.reduceLE, Int.reduceToNat, Int.reduceAdd, Int.reduceSub, Int.reduceNeg, Int.reduceMul, Int.reduceEq, ← Bool.decide_and, ← Bool.decide_or, ↓tq_n, ↓tq_e, ↓tq_r, ↓bq_n, ↓bq_e, ↓bq_r, ↓rq_n, ↓rq_r, ↓rq_e]
  exact ret_ok rfl
/-- A list, or nothing. -/
def opA : Option (List Int) → AV
  | none => .sl true 0 [] .unk
  | some s => .sl false s.length (i64s s) .unk
end Go.Proofs.Ytemfmnjhhdeedaa
namespace Go.Proofs.Ytemfmnjhhdeedaa
open Go Go.Abs
set_option linter.unusedSimpArgs false
set_option linter.unusedVariables false
set_option maxRecDepth 20000

theorem findSome_none {α : Type} {F : Nat → Option α} {m : Nat} (h : ∀ j, j < m → F j = none) : (List.range m).findSome? F = none := by
  induction m with
  | zero => rfl
  | succ m ih => rw [List.range_succ, List.findSome?_append, ih (fun j hj => h j (by omega))]; simp [h m (by omega)]
theorem findSome_at {α : Type} {F : Nat → Option α} {i : Nat} (h : ∀ j, j < i → F j = none) {x : α} (hx : F i = some x) {m : Nat} (hi : i < m) : (List.range m).findSome? F = some x := by
  induction m with
  | zero => omega
  | succ m ih =>
    rw [List.range_succ, List.findSome?_append]
    rcases lt_succ_cases hi with h1 | rfl
    · rw [ih h1]; rfl
    · rw [findSome_none h]; simp [hx]
theorem fitB_iff {a : List (Int × Int)} {s : List Int} {i : Nat} : fitB a s i = true ↔ ∀ q, q < s.length → fr a (s.getD q 0).toNat ≠ fr a i ∧ tt a (s.getD q 0).toNat ≠ tt a i := by
  unfold fitB
  rw [List.all_eq_true]
  constructor
  · intro h q hq
    have := h _ (mem_getD (d := 0) hq)
    simpa using this
  · intro h x hx
    obtain ⟨q, hq, e⟩ := List.getElem_of_mem hx
    have := h q hq
    rw [show s.getD q 0 = x by simp [List.getD, hq, e]] at this
    simpa using this
set_option maxHeartbeats 2000000 in
theorem r_ref_grow (n : Nat) (n1 : Bool) (a : List (Int × Int)) (u1 : Tail) (he : Ev n a) (size : Nat) (hsz : 0 < size) (hsz2 : size ≤ 1000) : ∀ (r : Nat) (nl : Bool) (s : List Int) (tl : Tail) (low : Nat), (s ≠ [] → nl = false) → s.length + r = size → Ix (low : Int) s → low ≤ a.length → ∀ h : AH,
    RCall Try.prog n_ref_grow [I n, .sl n1 a.length (prs a) u1, .sl nl s.length (i64s s) tl, I low, I size] h (opA (growF n a size r s low)) := by
  intro r
  induction r with
  | zero =>
    intro nl s tl low hnl hl hix hlow h
    refine RCall.of hm cF_ref_grow (by simp [g_ref_grow]) fun hw h' hl' => ?_
    have hs : s ≠ [] := fun hh => by subst hh; simp at hl; omega
    have hnf := hnl hs
    subst hnf
    have c1 : (s.length : Int) = (size : Int) := by omega
    simp only [c1, F_ref_grow, g_ref_grow, go_sem, reduceIte, Nat.reduceEqDiff, Nat.reduceAdd, Nat.reduceMul, Nat.reduceSub, reduceCtorEq, Nat.reduceLeDiff, Nat.reduceLT, Int.reduceLT, Int.reduceLE, Int.reduceToNat, Int.reduceAdd, Int.reduceSub, Int.reduceNeg, Int.reduceMul, Int.reduceEq, ← Bool.decide_and, ← Bool.decide_or, ↓tq_n, ↓tq_e, ↓tq_r, ↓bq_n, ↓bq_e, ↓bq_r, ↓rq_n, ↓rq_r, ↓rq_e]
    refine CallG.mk (r_ref_Cyclic n n1 a u1 he false s tl (ix_mono hix (by omega)) _) ?_
    cases hcy : cyB n (sub a s) with
    | true =>
      simp only [F_ref_grow, g_ref_grow, go_sem, reduceIte, Nat.reduceEqDiff, Nat.reduceAdd, Nat.reduceMul, Nat.reduceSub, reduceCtorEq, Nat.reduceLeDiff, Nat.reduceLT, Int.reduceLT, Int.reduceLE, Int.reduceToNat, Int.reduceAdd, Int.reduceSub, Int.reduceNeg, Int.reduceMul, Int.reduceEq, ← Bool.decide_and, ← Bool.decide_or, ↓tq_n, ↓tq_e, ↓tq_r, ↓bq_n, ↓bq_e, ↓bq_r, ↓rq_n, ↓rq_r, ↓rq_e]
      refine ret_le (AH.le.refl _) ?_
      have : growF n a size 0 s low = some s := by unfold growF; rw [if_pos hcy]
      rw [this]
      exact AV.le.unk
    | false =>
      simp only [F_ref_grow, g_ref_grow, go_sem, reduceIte, Nat.reduceEqDiff, Nat.reduceAdd, Nat.reduceMul, Nat.reduceSub, reduceCtorEq, Nat.reduceLeDiff, Nat.reduceLT, Int.reduceLT, Int.reduceLE, Int.reduceToNat, Int.reduceAdd, Int.reduceSub, Int.reduceNeg, Int.reduceMul, Int.reduceEq, ← Bool.decide_and, ← Bool.decide_or, ↓tq_n, ↓tq_e, ↓tq_r, ↓bq_n, ↓bq_e, ↓bq_r, ↓rq_n, ↓rq_r, ↓rq_e]
      refine ret_le (AH.le.refl _) ?_
      have : growF n a size 0 s low = none := by unfold growF; rw [if_neg (by rw [hcy]; decide)]
      rw [this]
      exact AV.le.unk
  | succ r ih =>
    intro nl s tl low hnl hl hix hlow h
    refine RCall.of hm cF_ref_grow (by simp [g_ref_grow]) fun hw h' hl' => ?_
    have ha := he.2.2.1
    have hsa : Ix (a.length : Int) s := ix_mono hix (by omega)
    have c1 : ¬ (s.length : Int) = (size : Int) := by omega
    obtain ⟨F, hF⟩ : ∃ F : Nat → Option (List Int), F = fun i => if low ≤ i ∧ i + (r + 1) ≤ a.length ∧ fitB a s i = true ∧ farZ a (tt a i) (fr a i) = (size : Int) - 1 then growF n a size r (s ++ [(i : Int)]) (i + 1) else none := ⟨_, rfl⟩
    have hg : growF n a size (r + 1) s low = (List.range a.length).findSome? F := by rw [hF]; rfl
    have hFn : ∀ i, ¬ (low ≤ i ∧ i + (r + 1) ≤ a.length ∧ fitB a s i = true ∧ farZ a (tt a i) (fr a i) = (size : Int) - 1) → F i = none := fun i hi => by rw [hF]; exact if_neg hi
    have hFy : ∀ i, (low ≤ i ∧ i + (r + 1) ≤ a.length ∧ fitB a s i = true ∧ farZ a (tt a i) (fr a i) = (size : Int) - 1) → F i = growF n a size r (s ++ [(i : Int)]) (i + 1) := fun i hi => by rw [hF]; exact if_pos hi
    clear hF
    simp only [c1, F_ref_grow, g_ref_grow, go_sem, reduceIte, Nat.reduceEqDiff, Nat.reduceAdd, Nat.reduceMul, Nat.reduceSub, reduceCtorEq, Nat.reduceLeDiff, Nat.reduceLT, Int.reduceLT, Int.reduceLE, Int.reduceToNat, Int.reduceAdd, Int.reduceSub, Int.reduceNeg, Int.reduceMul, Int.reduceEq, ← Bool.decide_and, ← Bool.decide_or, ↓tq_n, ↓tq_e, ↓tq_r, ↓bq_n, ↓bq_e, ↓bq_r, ↓rq_n, ↓rq_r, ↓rq_e]
    refine awp_loop (fun i : Nat => [(0, I n), (1, .sl n1 a.length (prs a) u1), (2, .sl nl s.length (i64s s) tl), (4, I size), (11, I i)]) (fun _ => h') (fun i => low ≤ i ∧ i ≤ a.length ∧ ∀ j, j < i → F j = none) (fun i => a.length - i) low ⟨Nat.le_refl _, hlow, fun j hj => hFn j (fun hh => by omega)⟩ (GStep.forget (by repeat' first | exact EnvLe.nil _ | refine EnvLe.cons (AV.le.of_eq rfl) ?_ | refine EnvLe.cons (AV.le.undef _) ?_ | refine EnvLe.cons AV.le.unk ?_) (by repeat' first | exact AH.le.refl _ | assumption | (refine AH.le_put ?_ (by first | assumption | exact (AH.blk_put_ne _ _ (by assumption)).trans (by assumption) | exact AH.none_put (by assumption) | exact AH.none_put (AH.none_put (by assumption)) | (simp only [AH.blk_setTok, AH.tok_put] at *; first | assumption | exact AH.none_put (by assumption)))) | (refine AH.le_setTok ?_ (by first | assumption | exact (AH.blk_put_ne _ _ (by assumption)).trans (by assumption) | exact AH.none_put (by assumption) | exact AH.none_put (AH.none_put (by assumption)) | (simp only [AH.blk_setTok, AH.tok_put] at *; first | assumption | exact AH.none_put (by assumption)))) | (refine AH.le_putM ?_ (by first | assumption | exact (AH.mp_putM_ne _ _ (by assumption)).trans (by assumption) | (simp only [AH.mp_put, AH.mp_setTok] at *; assumption))))) fun i hi => .of_vg hm ?_
    obtain ⟨h1, h2, h3⟩ := hi
    by_cases c2 : (i : Int) + (size : Int) - (s.length : Int) ≤ (a.length : Int)
    case neg =>
      simp only [c2, F_ref_grow, g_ref_grow, go_sem, reduceIte, Nat.reduceEqDiff, Nat.reduceAdd, Nat.reduceMul, Nat.reduceSub, reduceCtorEq, Nat.reduceLeDiff, Nat.reduceLT, Int.reduceLT, Int.reduceLE, Int.reduceToNat, Int.reduceAdd, Int.reduceSub, Int.reduceNeg, Int.reduceMul, Int.reduceEq, ← Bool.decide_and, ← Bool.decide_or, ↓tq_n, ↓tq_e, ↓tq_r, ↓bq_n, ↓bq_e, ↓bq_r, ↓rq_n, ↓rq_r, ↓rq_e]
      refine ⟨by rw [inR64]; omega, by rw [inR64]; omega, ?_⟩
      refine ret_le (AH.le.refl _) ?_
      have : growF n a size (r + 1) s low = none := by
        rw [hg]
        refine findSome_none fun j hj => ?_
        rcases Nat.lt_or_ge j i with h4 | h4
        · exact h3 j h4
        · exact hFn j (fun hh => by omega)
      rw [this]
      exact AV.le.unk
    have hil : i < a.length := by omega
    have hi1 : (i : Int) < (a.length : Int) := by omega
    obtain ⟨e1, e2, e3, e4⟩ := ev_k he hil
    simp only [c2, F_ref_grow, g_ref_grow, go_sem, reduceIte, Nat.reduceEqDiff, Nat.reduceAdd, Nat.reduceMul, Nat.reduceSub, reduceCtorEq, Nat.reduceLeDiff, Nat.reduceLT, Int.reduceLT, Int.reduceLE, Int.reduceToNat, Int.reduceAdd, Int.reduceSub, Int.reduceNeg, Int.reduceMul, Int.reduceEq, ← Bool.decide_and, ← Bool.decide_or, ↓tq_n, ↓tq_e, ↓tq_r, ↓bq_n, ↓bq_e, ↓bq_r, ↓rq_n, ↓rq_r, ↓rq_e]
    refine ⟨by rw [inR64]; omega, by rw [inR64]; omega, ?_⟩
    refine awp_loop (α := Nat × Bool) (fun y => [(0, I n), (1, .sl n1 a.length (prs a) u1), (2, .sl nl s.length (i64s s) tl), (4, I size), (11, I i), (12, .bool y.2), (13, I y.1)]) (fun _ => h') (fun y => y.1 ≤ s.length ∧ (y.2 = true ↔ ∀ q, q < y.1 → fr a (s.getD q 0).toNat ≠ fr a i ∧ tt a (s.getD q 0).toNat ≠ tt a i)) (fun y => s.length - y.1) (0, true) ⟨Nat.zero_le _, fun _ q hq => absurd hq (Nat.not_lt_zero _), fun _ => rfl⟩ (GStep.forget (by repeat' first | exact EnvLe.nil _ | refine EnvLe.cons (AV.le.of_eq rfl) ?_ | refine EnvLe.cons (AV.le.undef _) ?_ | refine EnvLe.cons AV.le.unk ?_) (by repeat' first | exact AH.le.refl _ | assumption | (refine AH.le_put ?_ (by first | assumption | exact (AH.blk_put_ne _ _ (by assumption)).trans (by assumption) | exact AH.none_put (by assumption) | exact AH.none_put (AH.none_put (by assumption)) | (simp only [AH.blk_setTok, AH.tok_put] at *; first | assumption | exact AH.none_put (by assumption)))) | (refine AH.le_setTok ?_ (by first | assumption | exact (AH.blk_put_ne _ _ (by assumption)).trans (by assumption) | exact AH.none_put (by assumption) | exact AH.none_put (AH.none_put (by assumption)) | (simp only [AH.blk_setTok, AH.tok_put] at *; first | assumption | exact AH.none_put (by assumption)))) | (refine AH.le_putM ?_ (by first | assumption | exact (AH.mp_putM_ne _ _ (by assumption)).trans (by assumption) | (simp only [AH.mp_put, AH.mp_setTok] at *; assumption))))) fun y hy => .of_vg hm ?_
    obtain ⟨k, bb⟩ := y
    obtain ⟨h4, h5⟩ := hy
    simp only at h4 h5 ⊢
    by_cases h6 : k < s.length
    · have hc : (k : Int) < (s.length : Int) := by omega
      have hkk : (k : Int) < (s.length : Int) := hc
      obtain ⟨i1, i2, i3⟩ := ix_at hsa h6
      obtain ⟨f1, f2, f3, f4⟩ := ev_k he i3
      have step : ∀ b : Bool, (b = true ↔ bb = true ∧ fr a (s.getD k 0).toNat ≠ fr a i ∧ tt a (s.getD k 0).toNat ≠ tt a i) → (b = true ↔ ∀ q, q < k + 1 → fr a (s.getD q 0).toNat ≠ fr a i ∧ tt a (s.getD q 0).toNat ≠ tt a i) := fun b hb => by
        rw [hb, h5]
        constructor
        · rintro ⟨q1, q2⟩; exact all_succ q1 q2
        · intro q1; exact ⟨fun q hq => q1 q (by omega), q1 k (by omega)⟩
      cases bb with
      | false =>
        simp only [hc, F_ref_grow, g_ref_grow, go_sem, reduceIte, Nat.reduceEqDiff, Nat.reduceAdd, Nat.reduceMul, Nat.reduceSub, reduceCtorEq, Nat.reduceLeDiff, Nat.reduceLT, Int.reduceLT, Int.reduceLE, Int.reduceToNat, Int.reduceAdd, Int.reduceSub, Int.reduceNeg, Int.reduceMul, Int.reduceEq, ← Bool.decide_and, ← Bool.decide_or, ↓tq_n, ↓tq_e, ↓tq_r, ↓bq_n, ↓bq_e, ↓bq_r, ↓rq_n, ↓rq_r, ↓rq_e]
        exact ⟨by rw [inR64]; omega, (k + 1, false), ⟨by simp only; omega, step false (by simp)⟩, by simp only; omega, (GStep.forget (by repeat' first | exact EnvLe.nil _ | refine EnvLe.cons (AV.le.of_eq rfl) ?_ | refine EnvLe.cons (AV.le.undef _) ?_ | refine EnvLe.cons AV.le.unk ?_) (by repeat' first | exact AH.le.refl _ | assumption | (refine AH.le_put ?_ (by first | assumption | exact (AH.blk_put_ne _ _ (by assumption)).trans (by assumption) | exact AH.none_put (by assumption) | exact AH.none_put (AH.none_put (by assumption)) | (simp only [AH.blk_setTok, AH.tok_put] at *; first | assumption | exact AH.none_put (by assumption)))) | (refine AH.le_setTok ?_ (by first | assumption | exact (AH.blk_put_ne _ _ (by assumption)).trans (by assumption) | exact AH.none_put (by assumption) | exact AH.none_put (AH.none_put (by assumption)) | (simp only [AH.blk_setTok, AH.tok_put] at *; first | assumption | exact AH.none_put (by assumption)))) | (refine AH.le_putM ?_ (by first | assumption | exact (AH.mp_putM_ne _ _ (by assumption)).trans (by assumption) | (simp only [AH.mp_put, AH.mp_setTok] at *; assumption)))))⟩
      | true =>
        by_cases c3 : fr a (s.getD k 0).toNat = fr a i
        · have c3' : ((fr a (s.getD k 0).toNat : Nat) : Int) = ((fr a i : Nat) : Int) := by rw [c3]
          simp only [hc, i64s_drop h6, i1, i2, hi1, prs_drop i3, prs_drop hil, f1, e1, c3', F_ref_grow, g_ref_grow, go_sem, reduceIte, Nat.reduceEqDiff, Nat.reduceAdd, Nat.reduceMul, Nat.reduceSub, reduceCtorEq, Nat.reduceLeDiff, Nat.reduceLT, Int.reduceLT, Int.reduceLE, Int.reduceToNat, Int.reduceAdd, Int.reduceSub, Int.reduceNeg, Int.reduceMul, Int.reduceEq, ← Bool.decide_and, ← Bool.decide_or, ↓tq_n, ↓tq_e, ↓tq_r, ↓bq_n, ↓bq_e, ↓bq_r, ↓rq_n, ↓rq_r, ↓rq_e]
          exact ⟨by rw [inR64]; omega, (k + 1, false), ⟨by simp only; omega, step false ⟨fun hh => (by cases hh), fun hh => absurd c3 hh.2.1⟩⟩, by simp only; omega, (GStep.forget (by repeat' first | exact EnvLe.nil _ | refine EnvLe.cons (AV.le.of_eq rfl) ?_ | refine EnvLe.cons (AV.le.undef _) ?_ | refine EnvLe.cons AV.le.unk ?_) (by repeat' first | exact AH.le.refl _ | assumption | (refine AH.le_put ?_ (by first | assumption | exact (AH.blk_put_ne _ _ (by assumption)).trans (by assumption) | exact AH.none_put (by assumption) | exact AH.none_put (AH.none_put (by assumption)) | (simp only [AH.blk_setTok, AH.tok_put] at *; first | assumption | exact AH.none_put (by assumption)))) | (refine AH.le_setTok ?_ (by first | assumption | exact (AH.blk_put_ne _ _ (by assumption)).trans (by assumption) | exact AH.none_put (by assumption) | exact AH.none_put (AH.none_put (by assumption)) | (simp only [AH.blk_setTok, AH.tok_put] at *; first | assumption | exact AH.none_put (by assumption)))) | (refine AH.le_putM ?_ (by first | assumption | exact (AH.mp_putM_ne _ _ (by assumption)).trans (by assumption) | (simp only [AH.mp_put, AH.mp_setTok] at *; assumption)))))⟩
        · have c3' : ¬ ((fr a (s.getD k 0).toNat : Nat) : Int) = ((fr a i : Nat) : Int) := by omega
          by_cases c4 : tt a (s.getD k 0).toNat = tt a i
          · have c4' : ((tt a (s.getD k 0).toNat : Nat) : Int) = ((tt a i : Nat) : Int) := by rw [c4]
            simp only [hc, i64s_drop h6, i1, i2, hi1, prs_drop i3, prs_drop hil, f1, e1, c3', c4', F_ref_grow, g_ref_grow, go_sem, reduceIte, Nat.reduceEqDiff, Nat.reduceAdd, Nat.reduceMul, Nat.reduceSub, reduceCtorEq, Nat.reduceLeDiff, Nat.reduceLT, Int.reduceLT, Int.reduceLE, Int.reduceToNat, Int.reduceAdd, Int.reduceSub, Int.reduceNeg, Int.reduceMul, Int.reduceEq, ← Bool.decide_and, ← Bool.decide_or, ↓tq_n, ↓tq_e, ↓tq_r, ↓bq_n, ↓bq_e, ↓bq_r, ↓rq_n, ↓rq_r, ↓rq_e]
            exact ⟨by rw [inR64]; omega, (k + 1, false), ⟨by simp only; omega, step false ⟨fun hh => (by cases hh), fun hh => absurd c4 hh.2.2⟩⟩, by simp only; omega, (GStep.forget (by repeat' first | exact EnvLe.nil _ | refine EnvLe.cons (AV.le.of_eq rfl) ?_ | refine EnvLe.cons (AV.le.undef _) ?_ | refine EnvLe.cons AV.le.unk ?_) (by repeat' first | exact AH.le.refl _ | assumption | (refine AH.le_put ?_ (by first | assumption | exact (AH.blk_put_ne _ _ (by assumption)).trans (by assumption) | exact AH.none_put (by assumption) | exact AH.none_put (AH.none_put (by assumption)) | (simp only [AH.blk_setTok, AH.tok_put] at *; first | assumption | exact AH.none_put (by assumption)))) | (refine AH.le_setTok ?_ (by first | assumption | exact (AH.blk_put_ne _ _ (by assumption)).trans (by assumption) | exact AH.none_put (by assumption) | exact AH.none_put (AH.none_put (by assumption)) | (simp only [AH.blk_setTok, AH.tok_put] at *; first | assumption | exact AH.none_put (by assumption)))) | (refine AH.le_putM ?_ (by first | assumption | exact (AH.mp_putM_ne _ _ (by assumption)).trans (by assumption) | (simp only [AH.mp_put, AH.mp_setTok] at *; assumption)))))⟩
          · have c4' : ¬ ((tt a (s.getD k 0).toNat : Nat) : Int) = ((tt a i : Nat) : Int) := by omega
            simp only [hc, i64s_drop h6, i1, i2, hi1, prs_drop i3, prs_drop hil, f1, e1, c3', c4', F_ref_grow, g_ref_grow, go_sem, reduceIte, Nat.reduceEqDiff, Nat.reduceAdd, Nat.reduceMul, Nat.reduceSub, reduceCtorEq, Nat.reduceLeDiff, Nat.reduceLT, Int.reduceLT, Int.reduceLE, Int.reduceToNat, Int.reduceAdd, Int.reduceSub, Int.reduceNeg, Int.reduceMul, Int.reduceEq, ← Bool.decide_and, ← Bool.decide_or, ↓tq_n, ↓tq_e, ↓tq_r, ↓bq_n, ↓bq_e, ↓bq_r, ↓rq_n, ↓rq_r, ↓rq_e]
            exact ⟨by rw [inR64]; omega, (k + 1, true), ⟨by simp only; omega, step true ⟨fun _ => ⟨rfl, c3, c4⟩, fun _ => rfl⟩⟩, by simp only; omega, (GStep.forget (by repeat' first | exact EnvLe.nil _ | refine EnvLe.cons (AV.le.of_eq rfl) ?_ | refine EnvLe.cons (AV.le.undef _) ?_ | refine EnvLe.cons AV.le.unk ?_) (by repeat' first | exact AH.le.refl _ | assumption | (refine AH.le_put ?_ (by first | assumption | exact (AH.blk_put_ne _ _ (by assumption)).trans (by assumption) | exact AH.none_put (by assumption) | exact AH.none_put (AH.none_put (by assumption)) | (simp only [AH.blk_setTok, AH.tok_put] at *; first | assumption | exact AH.none_put (by assumption)))) | (refine AH.le_setTok ?_ (by first | assumption | exact (AH.blk_put_ne _ _ (by assumption)).trans (by assumption) | exact AH.none_put (by assumption) | exact AH.none_put (AH.none_put (by assumption)) | (simp only [AH.blk_setTok, AH.tok_put] at *; first | assumption | exact AH.none_put (by assumption)))) | (refine AH.le_putM ?_ (by first | assumption | exact (AH.mp_putM_ne _ _ (by assumption)).trans (by assumption) | (simp only [AH.mp_put, AH.mp_setTok] at *; assumption)))))⟩
    have h6 : k = s.length := by omega
    subst h6
    cases bb with
    | false =>
      have hfit : ¬ fitB a s i = true := fun hh => by have := h5.2 (fitB_iff.1 hh); cases this
      simp only [F_ref_grow, g_ref_grow, go_sem, reduceIte, Nat.reduceEqDiff, Nat.reduceAdd, Nat.reduceMul, Nat.reduceSub, reduceCtorEq, Nat.reduceLeDiff, Nat.reduceLT, Int.reduceLT, Int.reduceLE, Int.reduceToNat, Int.reduceAdd, Int.reduceSub, Int.reduceNeg, Int.reduceMul, Int.reduceEq, ← Bool.decide_and, ← Bool.decide_or, ↓tq_n, ↓tq_e, ↓tq_r, ↓bq_n, ↓bq_e, ↓bq_r, ↓rq_n, ↓rq_r, ↓rq_e]
      exact ⟨by rw [inR64]; omega, i + 1, ⟨by omega, by omega, all_succ h3 (hFn i fun hh => hfit hh.2.2.1)⟩, by omega, (GStep.forget (by repeat' first | exact EnvLe.nil _ | refine EnvLe.cons (AV.le.of_eq rfl) ?_ | refine EnvLe.cons (AV.le.undef _) ?_ | refine EnvLe.cons AV.le.unk ?_) (by repeat' first | exact AH.le.refl _ | assumption | (refine AH.le_put ?_ (by first | assumption | exact (AH.blk_put_ne _ _ (by assumption)).trans (by assumption) | exact AH.none_put (by assumption) | exact AH.none_put (AH.none_put (by assumption)) | (simp only [AH.blk_setTok, AH.tok_put] at *; first | assumption | exact AH.none_put (by assumption)))) | (refine AH.le_setTok ?_ (by first | assumption | exact (AH.blk_put_ne _ _ (by assumption)).trans (by assumption) | exact AH.none_put (by assumption) | exact AH.none_put (AH.none_put (by assumption)) | (simp only [AH.blk_setTok, AH.tok_put] at *; first | assumption | exact AH.none_put (by assumption)))) | (refine AH.le_putM ?_ (by first | assumption | exact (AH.mp_putM_ne _ _ (by assumption)).trans (by assumption) | (simp only [AH.mp_put, AH.mp_setTok] at *; assumption)))))⟩
    | true =>
      have hfit : fitB a s i = true := fitB_iff.2 (h5.1 rfl)
      simp only [F_ref_grow, g_ref_grow, go_sem, reduceIte, Nat.reduceEqDiff, Nat.reduceAdd, Nat.reduceMul, Nat.reduceSub, reduceCtorEq, Nat.reduceLeDiff, Nat.reduceLT, Int.reduceLT, Int.reduceLE, Int.reduceToNat, Int.reduceAdd, Int.reduceSub, Int.reduceNeg, Int.reduceMul, Int.reduceEq, ← Bool.decide_and, ← Bool.decide_or, ↓tq_n, ↓tq_e, ↓tq_r, ↓bq_n, ↓bq_e, ↓bq_r, ↓rq_n, ↓rq_r, ↓rq_e]
      refine ⟨by rw [i64s_len], by omega, by omega, TokG.mk fun t ht => ?_⟩
      simp only [F_ref_grow, g_ref_grow, go_sem, reduceIte, Nat.reduceEqDiff, Nat.reduceAdd, Nat.reduceMul, Nat.reduceSub, reduceCtorEq, Nat.reduceLeDiff, Nat.reduceLT, Int.reduceLT, Int.reduceLE, Int.reduceToNat, Int.reduceAdd, Int.reduceSub, Int.reduceNeg, Int.reduceMul, Int.reduceEq, ← Bool.decide_and, ← Bool.decide_or, ↓tq_n, ↓tq_e, ↓tq_r, ↓bq_n, ↓bq_e, ↓bq_r, ↓rq_n, ↓rq_r, ↓rq_e]
      refine ⟨by rw [i64s_len], by omega, by omega, ?_⟩
      have ee : i64s s ++ [AV.int IntKind.i64 (i : Int)] = i64s (s ++ [(i : Int)]) := by rw [i64s_append]; rfl
      rw [ee]
      simp only [hi1, prs_drop hil, e1, F_ref_grow, g_ref_grow, go_sem, reduceIte, Nat.reduceEqDiff, Nat.reduceAdd, Nat.reduceMul, Nat.reduceSub, reduceCtorEq, Nat.reduceLeDiff, Nat.reduceLT, Int.reduceLT, Int.reduceLE, Int.reduceToNat, Int.reduceAdd, Int.reduceSub, Int.reduceNeg, Int.reduceMul, Int.reduceEq, ← Bool.decide_and, ← Bool.decide_or, ↓tq_n, ↓tq_e, ↓tq_r, ↓bq_n, ↓bq_e, ↓bq_r, ↓rq_n, ↓rq_r, ↓rq_e]
      refine CallG.mk (r_ref_far n n1 a u1 he (tt a i) (fr a i) e3 e2 _) ?_
      by_cases c5 : farZ a (tt a i) (fr a i) = (size : Int) - 1
      case neg =>
        simp only [c5, F_ref_grow, g_ref_grow, go_sem, reduceIte, Nat.reduceEqDiff, Nat.reduceAdd, Nat.reduceMul, Nat.reduceSub, reduceCtorEq, Nat.reduceLeDiff, Nat.reduceLT, Int.reduceLT, Int.reduceLE, Int.reduceToNat, Int.reduceAdd, Int.reduceSub, Int.reduceNeg, Int.reduceMul, Int.reduceEq, ← Bool.decide_and, ← Bool.decide_or, ↓tq_n, ↓tq_e, ↓tq_r, ↓bq_n, ↓bq_e, ↓bq_r, ↓rq_n, ↓rq_r, ↓rq_e]
        exact ⟨by rw [inR64]; omega, by rw [inR64]; omega, i + 1, ⟨by omega, by omega, all_succ h3 (hFn i fun hh => c5 hh.2.2.2)⟩, by omega, (GStep.forget (by repeat' first | exact EnvLe.nil _ | refine EnvLe.cons (AV.le.of_eq rfl) ?_ | refine EnvLe.cons (AV.le.undef _) ?_ | refine EnvLe.cons AV.le.unk ?_) (by repeat' first | exact AH.le.refl _ | assumption | (refine AH.le_put ?_ (by first | assumption | exact (AH.blk_put_ne _ _ (by assumption)).trans (by assumption) | exact AH.none_put (by assumption) | exact AH.none_put (AH.none_put (by assumption)) | (simp only [AH.blk_setTok, AH.tok_put] at *; first | assumption | exact AH.none_put (by assumption)))) | (refine AH.le_setTok ?_ (by first | assumption | exact (AH.blk_put_ne _ _ (by assumption)).trans (by assumption) | exact AH.none_put (by assumption) | exact AH.none_put (AH.none_put (by assumption)) | (simp only [AH.blk_setTok, AH.tok_put] at *; first | assumption | exact AH.none_put (by assumption)))) | (refine AH.le_putM ?_ (by first | assumption | exact (AH.mp_putM_ne _ _ (by assumption)).trans (by assumption) | (simp only [AH.mp_put, AH.mp_setTok] at *; assumption)))))⟩
      simp only [c5, F_ref_grow, g_ref_grow, go_sem, reduceIte, Nat.reduceEqDiff, Nat.reduceAdd, Nat.reduceMul, Nat.reduceSub, reduceCtorEq, Nat.reduceLeDiff, Nat.reduceLT, Int.reduceLT, Int.reduceLE, Int.reduceToNat, Int.reduceAdd, Int.reduceSub, Int.reduceNeg, Int.reduceMul, Int.reduceEq, ← Bool.decide_and, ← Bool.decide_or, ↓tq_n, ↓tq_e, ↓tq_r, ↓bq_n, ↓bq_e, ↓bq_r, ↓rq_n, ↓rq_r, ↓rq_e]
      refine ⟨by rw [inR64]; omega, by rw [inR64]; omega, ?_⟩
      have hrec := ih false (s ++ [(i : Int)]) (.tok t) (i + 1) (fun _ => rfl) (by simp; omega) (ix_snoc (ix_mono hix (by omega)) (by omega)) (by omega) (h'.setTok t (s.length + 1) 1)
      rw [List.length_append, List.length_singleton] at hrec
      refine CallG.mk hrec ?_
      have hFi := hFy i ⟨h1, by omega, hfit, c5⟩
      cases hgr : growF n a size r (s ++ [(i : Int)]) (i + 1) with
      | none =>
        rw [hgr] at hFi
        simp only [opA, F_ref_grow, g_ref_grow, go_sem, reduceIte, Nat.reduceEqDiff, Nat.reduceAdd, Nat.reduceMul, Nat.reduceSub, reduceCtorEq, Nat.reduceLeDiff, Nat.reduceLT, Int.reduceLT, Int.reduceLE, Int.reduceToNat, Int.reduceAdd, Int.reduceSub, Int.reduceNeg, Int.reduceMul, Int.reduceEq, ← Bool.decide_and, ← Bool.decide_or, ↓tq_n, ↓tq_e, ↓tq_r, ↓bq_n, ↓bq_e, ↓bq_r, ↓rq_n, ↓rq_r, ↓rq_e]
        exact ⟨by rw [inR64]; omega, i + 1, ⟨by omega, by omega, all_succ h3 hFi⟩, by omega, (GStep.forget (by repeat' first | exact EnvLe.nil _ | refine EnvLe.cons (AV.le.of_eq rfl) ?_ | refine EnvLe.cons (AV.le.undef _) ?_ | refine EnvLe.cons AV.le.unk ?_) (by repeat' first | exact AH.le.refl _ | assumption | (refine AH.le_put ?_ (by first | assumption | exact (AH.blk_put_ne _ _ (by assumption)).trans (by assumption) | exact AH.none_put (by assumption) | exact AH.none_put (AH.none_put (by assumption)) | (simp only [AH.blk_setTok, AH.tok_put] at *; first | assumption | exact AH.none_put (by assumption)))) | (refine AH.le_setTok ?_ (by first | assumption | exact (AH.blk_put_ne _ _ (by assumption)).trans (by assumption) | exact AH.none_put (by assumption) | exact AH.none_put (AH.none_put (by assumption)) | (simp only [AH.blk_setTok, AH.tok_put] at *; first | assumption | exact AH.none_put (by assumption)))) | (refine AH.le_putM ?_ (by first | assumption | exact (AH.mp_putM_ne _ _ (by assumption)).trans (by assumption) | (simp only [AH.mp_put, AH.mp_setTok] at *; assumption)))))⟩
      | some o =>
        rw [hgr] at hFi
        simp only [opA, F_ref_grow, g_ref_grow, go_sem, reduceIte, Nat.reduceEqDiff, Nat.reduceAdd, Nat.reduceMul, Nat.reduceSub, reduceCtorEq, Nat.reduceLeDiff, Nat.reduceLT, Int.reduceLT, Int.reduceLE, Int.reduceToNat, Int.reduceAdd, Int.reduceSub, Int.reduceNeg, Int.reduceMul, Int.reduceEq, ← Bool.decide_and, ← Bool.decide_or, ↓tq_n, ↓tq_e, ↓tq_r, ↓bq_n, ↓bq_e, ↓bq_r, ↓rq_n, ↓rq_r, ↓rq_e]
        refine ret_hb (by repeat' first | exact AH.le.refl _ | assumption | (refine AH.le_put ?_ (by first | assumption | exact (AH.blk_put_ne _ _ (by assumption)).trans (by assumption) | exact AH.none_put (by assumption) | exact AH.none_put (AH.none_put (by assumption)) | (simp only [AH.blk_setTok, AH.tok_put] at *; first | assumption | exact AH.none_put (by assumption)))) | (refine AH.le_setTok ?_ (by first | assumption | exact (AH.blk_put_ne _ _ (by assumption)).trans (by assumption) | exact AH.none_put (by assumption) | exact AH.none_put (AH.none_put (by assumption)) | (simp only [AH.blk_setTok, AH.tok_put] at *; first | assumption | exact AH.none_put (by assumption)))) | (refine AH.le_putM ?_ (by first | assumption | exact (AH.mp_putM_ne _ _ (by assumption)).trans (by assumption) | (simp only [AH.mp_put, AH.mp_setTok] at *; assumption)))) ?_
        rw [hg, findSome_at h3 hFi hil]
/-- What Smallest returns. -/
noncomputable def smV (n : Int) (a : List (Int × Int)) : AV := if Ev n a then (match smF a n.toNat with
  | none => .tup [.sl true 0 [] .full, I 7]
  | some s => .tup [.sl false s.length (i64s s) .unk, I 0]) else .tup [.sl true 0 [] .full, I 1]
theorem gi_le {a : List (Int × Int)} {g : Nat} (hg : Gi a g) : g ≤ a.length := by
  obtain ⟨ks, u, h1, h2⟩ := hg.2.1
  have := nd_lenN (nodup_of_map (gi_nodup hg h1 h2)) (iw_lt h1)
  omega
theorem r_ref_Smallest (n : Int) (n1 : Bool) (a : List (Int × Int)) (u1 : Tail) (h : AH) : RCall Try.prog n_ref_Smallest [I n, .sl n1 a.length (prs a) u1] h (smV n a) := by
  refine RCall.of hm cF_ref_Smallest (by simp [g_ref_Smallest]) fun hw h' hl => ?_
  simp only [F_ref_Smallest, g_ref_Smallest, go_sem, reduceIte, Nat.reduceEqDiff, Nat.reduceAdd, Nat.reduceMul, Nat.reduceSub, reduceCtorEq, Nat.reduceLeDiff, Nat.reduceLT, Int.reduceLT, Int.reduceLE, Int.reduceToNat, Int.reduceAdd, Int.reduceSub, Int.reduceNeg, Int.reduceMul, Int.reduceEq, ← Bool.decide_and, ← Bool.decide_or, ↓tq_n, ↓tq_e, ↓tq_r, ↓bq_n, ↓bq_e, ↓bq_r, ↓rq_n, ↓rq_r, ↓rq_e]
  refine CallG.mk (r_ref_Valid n n1 a u1 _) ?_
  by_cases he : Ev n a
  case neg =>
    rw [decide_eq_false he]
    simp only [F_ref_Smallest, g_ref_Smallest, go_sem, reduceIte, Nat.reduceEqDiff, Nat.reduceAdd, Nat.reduceMul, Nat.reduceSub, reduceCtorEq, Nat.reduceLeDiff, Nat.reduceLT, Int.reduceLT, Int.reduceLE, Int.reduceToNat, Int.reduceAdd, Int.reduceSub, Int.reduceNeg, Int.reduceMul, Int.reduceEq, ← Bool.decide_and, ← Bool.decide_or, ↓tq_n, ↓tq_e, ↓tq_r, ↓bq_n, ↓bq_e, ↓bq_r, ↓rq_n, ↓rq_r, ↓rq_e]
    exact ret_ok (by simp [smV, he])
  rw [decide_eq_true he]
  obtain ⟨m, rfl⟩ := ev_nat he
  have ha := he.2.2.1
  simp only [F_ref_Smallest, g_ref_Smallest, go_sem, reduceIte, Nat.reduceEqDiff, Nat.reduceAdd, Nat.reduceMul, Nat.reduceSub, reduceCtorEq, Nat.reduceLeDiff, Nat.reduceLT, Int.reduceLT, Int.reduceLE, Int.reduceToNat, Int.reduceAdd, Int.reduceSub, Int.reduceNeg, Int.reduceMul, Int.reduceEq, ← Bool.decide_and, ← Bool.decide_or, ↓tq_n, ↓tq_e, ↓tq_r, ↓bq_n, ↓bq_e, ↓bq_r, ↓rq_n, ↓rq_r, ↓rq_e]
  refine CallG.mk (r_ref_girth m n1 a u1 he _) ?_
  rcases small_eq he with ⟨k1, k2⟩ | ⟨g, s, k1, k2, k3, k4, k5⟩
  · rw [k2]
    simp only [F_ref_Smallest, g_ref_Smallest, go_sem, reduceIte, Nat.reduceEqDiff, Nat.reduceAdd, Nat.reduceMul, Nat.reduceSub, reduceCtorEq, Nat.reduceLeDiff, Nat.reduceLT, Int.reduceLT, Int.reduceLE, Int.reduceToNat, Int.reduceAdd, Int.reduceSub, Int.reduceNeg, Int.reduceMul, Int.reduceEq, ← Bool.decide_and, ← Bool.decide_or, ↓tq_n, ↓tq_e, ↓tq_r, ↓bq_n, ↓bq_e, ↓bq_r, ↓rq_n, ↓rq_r, ↓rq_e]
    exact ret_ok (by simp [smV, he, k1])
  · have hgl : g ≤ a.length := by
      rcases giK_gi a with ⟨h1, h2⟩ | ⟨g', h1, h2⟩
      · omega
      · have := gi_le h2; omega
    have c1 : ¬ (g : Int) = 0 := by omega
    rw [k1]
    simp only [c1, F_ref_Smallest, g_ref_Smallest, go_sem, reduceIte, Nat.reduceEqDiff, Nat.reduceAdd, Nat.reduceMul, Nat.reduceSub, reduceCtorEq, Nat.reduceLeDiff, Nat.reduceLT, Int.reduceLT, Int.reduceLE, Int.reduceToNat, Int.reduceAdd, Int.reduceSub, Int.reduceNeg, Int.reduceMul, Int.reduceEq, ← Bool.decide_and, ← Bool.decide_or, ↓tq_n, ↓tq_e, ↓tq_r, ↓bq_n, ↓bq_e, ↓bq_r, ↓rq_n, ↓rq_r, ↓rq_e]
    refine CallG.mk (r_ref_grow m n1 a u1 he g k2 (by omega) g true [] .full 0 (fun hh => absurd rfl hh) (by simp) (fun i hi => by simp at hi) (Nat.zero_le _) _) ?_
    rw [k3]
    simp only [opA, F_ref_Smallest, g_ref_Smallest, go_sem, reduceIte, Nat.reduceEqDiff, Nat.reduceAdd, Nat.reduceMul, Nat.reduceSub, reduceCtorEq, Nat.reduceLeDiff, Nat.reduceLT, Int.reduceLT, Int.reduceLE, Int.reduceToNat, Int.reduceAdd, Int.reduceSub, Int.reduceNeg, Int.reduceMul, Int.reduceEq, ← Bool.decide_and, ← Bool.decide_or, ↓tq_n, ↓tq_e, ↓tq_r, ↓bq_n, ↓bq_e, ↓bq_r, ↓rq_n, ↓rq_r, ↓rq_e]
    exact ret_ok (by simp [smV, he, k4])

/-! What is blamed. -/
noncomputable def blP (a : List (Int × Int)) (k : Nat) : Bool := decide (0 ≤ farZ a (tt a k) (fr a k))
noncomputable def blF (a : List (Int × Int)) (i : Nat) : List Nat := (List.range i).filter (blP a)
theorem blF_succ (a : List (Int × Int)) (i : Nat) : blF a (i + 1) = if blP a i = true then blF a i ++ [i] else blF a i := by
  unfold blF
  rw [List.range_succ, List.filter_append]
  by_cases h : blP a i = true
  · rw [if_pos h]; simp [h]
  · rw [if_neg h]; simp [h]
theorem blF_len (a : List (Int × Int)) (i : Nat) : (blF a i).length ≤ i := by
  have := List.length_filter_le (blP a) (List.range i)
  rw [List.length_range] at this
  exact this
noncomputable def blV (n : Int) (a : List (Int × Int)) : AV := if Ev n a then .tup [gl (i64s (nats (blF a a.length))) (nats (blF a a.length)).length .unk, I 0] else .tup [.sl true 0 [] .full, I 1]
theorem blP_iff {n : Nat} {a : List (Int × Int)} (he : Ev n a) {k : Nat} (hk : k < a.length) : blP a k = true ↔ ∃ ks, ks ≠ [] ∧ IW a (tt a k) ks (fr a k) := by
  unfold blP
  rw [decide_eq_true_eq]
  obtain ⟨e1, e2, e3, e4⟩ := ev_k he hk
  rcases farZ_spec a (tt a k) (fr a k) with ⟨k1, k2⟩ | ⟨L, k1, k2, k3⟩
  · constructor
    · intro h; omega
    · rintro ⟨ks, h1, h2⟩; exact absurd ⟨ks, rfl, h2, fun _ _ => Nat.zero_le _⟩ (k2 ks.length)
  · constructor
    · intro _
      obtain ⟨ks, w1, w2, _⟩ := k2
      refine ⟨ks, fun hh => ?_, w2⟩
      subst hh
      exact e4 w2.symm
    · intro _; omega
theorem ix_whole (k : Nat) : Ix (k : Int) (nats (List.range k)) := by
  rw [ix_pw]
  refine ⟨fun x hx => ?_, ?_⟩
  · obtain ⟨j, rfl, hj⟩ := of_nats hx
    rw [List.mem_range] at hj
    omega
  · unfold nats
    rw [List.pairwise_map]
    exact (List.pairwise_lt_range).imp fun hab => by omega
theorem bl_bt {n : Nat} {a : List (Int × Int)} (he : Ev n a) {k : Nat} (hk : k < a.length) : bt (wr n (nxt n (sub a (nats (List.range a.length))) a.length) n) (tt a k) (fr a k) = blP a k := by
  obtain ⟨e1, e2, e3, e4⟩ := ev_k he hk
  have hix := ix_whole a.length
  have hsl : (sub a (nats (List.range a.length))).length = a.length := by rw [sub_len, nats_len, List.length_range]
  rw [Bool.eq_iff_iff, blP_iff he hk]
  have hlt := arcE_lt (sub_arc he hix)
  have h1 := wr_way (n := n) (nxt_len n (sub a (nats (List.range a.length))) a.length) (fun i j hij => hlt i j (by unfold arcE; rw [hsl]; exact hij)) e3 (j := fr a k)
  rw [h1]
  have h2 : BE (nxt n (sub a (nats (List.range a.length))) a.length) = arcE n (sub a (nats (List.range a.length))) := by unfold arcE; rw [hsl]
  rw [h2]
  constructor
  · intro h
    obtain ⟨ks, h3, h4, _⟩ := way_iw he hix h
    exact ⟨ks, h3, h4⟩
  · rintro ⟨ks, h3, h4⟩
    exact iw_way he hix h3 h4 fun j hj => mem_nats.2 (List.mem_range.2 (iw_lt h4 j hj))
end Go.Proofs.Ytemfmnjhhdeedaa
