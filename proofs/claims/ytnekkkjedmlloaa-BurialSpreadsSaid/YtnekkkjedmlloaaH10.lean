/- Calls of functions of this seat's program: the first hoard of the reference, and both spreads. No condition. -/
import Derived.Test.YtnekkkjedmlloaaH9
namespace Go.Proofs.Ytnekkkjedmlloaa
open Go Go.Abs
set_option linter.unusedSimpArgs false
set_option linter.unusedVariables false
set_option maxRecDepth 20000

theorem r_ref_First (n1 : Bool) (l : List Hd) (u1 : Tail) (k : Int) (h : AH) : RCall Try.prog n_ref_First [.sl n1 l.length (hds l) u1, I k] h (firstV l k) := by
  refine RCall.of hm cF_ref_First (by simp [g_ref_First]) fun hw h' hl => ?_
  simp only [F_ref_First, g_ref_First, go_sem, reduceIte, Nat.reduceEqDiff, Nat.reduceAdd, Nat.reduceMul, Nat.reduceSub, reduceCtorEq, Nat.reduceLeDiff, Nat.reduceLT, Int.reduceLT, Int.reduceLE, Int.reduceToNat, Int.reduceAdd, Int.reduceSub, Int.reduceNeg, Int.reduceMul, Int.reduceEq, ← Bool.decide_and, ← Bool.decide_or, ↓tq_n, ↓tq_e, ↓tq_r, ↓bq_n, ↓bq_e, ↓bq_r, ↓rq_n, ↓rq_r, ↓rq_e]
  refine CallG.mk (r_ref_Check n1 l u1 _) ?_
  by_cases h1 : chk l = 0
  case neg =>
    simp only [h1, F_ref_First, g_ref_First, go_sem, reduceIte, Nat.reduceEqDiff, Nat.reduceAdd, Nat.reduceMul, Nat.reduceSub, reduceCtorEq, Nat.reduceLeDiff, Nat.reduceLT, Int.reduceLT, Int.reduceLE, Int.reduceToNat, Int.reduceAdd, Int.reduceSub, Int.reduceNeg, Int.reduceMul, Int.reduceEq, ← Bool.decide_and, ← Bool.decide_or, ↓tq_n, ↓tq_e, ↓tq_r, ↓bq_n, ↓bq_e, ↓bq_r, ↓rq_n, ↓rq_r, ↓rq_e]
    exact ret_ok (by simp [firstV, havQ, h1])
  obtain ⟨l8, hvl⟩ := chk_vls h1
  simp only [h1, F_ref_First, g_ref_First, go_sem, reduceIte, Nat.reduceEqDiff, Nat.reduceAdd, Nat.reduceMul, Nat.reduceSub, reduceCtorEq, Nat.reduceLeDiff, Nat.reduceLT, Int.reduceLT, Int.reduceLE, Int.reduceToNat, Int.reduceAdd, Int.reduceSub, Int.reduceNeg, Int.reduceMul, Int.reduceEq, ← Bool.decide_and, ← Bool.decide_or, ↓tq_n, ↓tq_e, ↓tq_r, ↓bq_n, ↓bq_e, ↓bq_r, ↓rq_n, ↓rq_r, ↓rq_e]
  obtain ⟨B, hB⟩ : ∃ B : Option Nat → Int, B = fun o => match o with | none => -1 | some m => (m : Int) := ⟨_, rfl⟩
  have hlt : ∀ i m, i ≤ l.length → mnL (clT l) (havI l k i) = some m → m < l.length := fun i m hi hm => by
    by_cases h0 : havI l k i = []
    · rw [h0] at hm; cases hm
    · obtain ⟨m', e1, e2, _⟩ := mnL_spec (clT l) _ h0
      rw [hm] at e1; cases e1
      have := (mem_havI.1 e2).1
      omega
  refine awp_loop (fun i : Nat => [(0, .sl n1 l.length (hds l) u1), (1, I k), (7, I (B (mnL (clT l) (havI l k i)))), (8, I i)]) (fun _ => h') (fun i => i ≤ l.length) (fun i => l.length - i) 0 (Nat.zero_le _) (by rw [hB]; exact (GStep.forget (by repeat' first | exact EnvLe.nil _ | refine EnvLe.cons (AV.le.of_eq rfl) ?_ | refine EnvLe.cons (AV.le.undef _) ?_ | refine EnvLe.cons AV.le.unk ?_) (by repeat' first | exact AH.le.refl _ | assumption | (refine AH.le_put ?_ (by first | assumption | exact (AH.blk_put_ne _ _ (by assumption)).trans (by assumption) | exact AH.none_put (by assumption) | exact AH.none_put (AH.none_put (by assumption)) | (simp only [AH.blk_setTok, AH.tok_put] at *; first | assumption | exact AH.none_put (by assumption)))) | (refine AH.le_setTok ?_ (by first | assumption | exact (AH.blk_put_ne _ _ (by assumption)).trans (by assumption) | exact AH.none_put (by assumption) | exact AH.none_put (AH.none_put (by assumption)) | (simp only [AH.blk_setTok, AH.tok_put] at *; first | assumption | exact AH.none_put (by assumption)))) | (refine AH.le_putM ?_ (by first | assumption | exact (AH.mp_putM_ne _ _ (by assumption)).trans (by assumption) | (simp only [AH.mp_put, AH.mp_setTok] at *; assumption)))))) fun i hi => .of_vg hm ?_
  by_cases h5 : i < l.length
  · have hc : (i : Int) < (l.length : Int) := by omega
    simp only [hc, hds_drop h5, F_ref_First, g_ref_First, go_sem, reduceIte, Nat.reduceEqDiff, Nat.reduceAdd, Nat.reduceMul, Nat.reduceSub, reduceCtorEq, Nat.reduceLeDiff, Nat.reduceLT, Int.reduceLT, Int.reduceLE, Int.reduceToNat, Int.reduceAdd, Int.reduceSub, Int.reduceNeg, Int.reduceMul, Int.reduceEq, ← Bool.decide_and, ← Bool.decide_or, ↓tq_n, ↓tq_e, ↓tq_r, ↓bq_n, ↓bq_e, ↓bq_r, ↓rq_n, ↓rq_r, ↓rq_e]
    refine CallG.mk (r_ref_Number (l.getD i dH) k _) ?_
    by_cases h6 : 0 < numI (l.getD i dH) k
    case neg =>
      have e1 : havI l k (i + 1) = havI l k i := by rw [havI, if_neg h6]
      simp only [h6, F_ref_First, g_ref_First, go_sem, reduceIte, Nat.reduceEqDiff, Nat.reduceAdd, Nat.reduceMul, Nat.reduceSub, reduceCtorEq, Nat.reduceLeDiff, Nat.reduceLT, Int.reduceLT, Int.reduceLE, Int.reduceToNat, Int.reduceAdd, Int.reduceSub, Int.reduceNeg, Int.reduceMul, Int.reduceEq, ← Bool.decide_and, ← Bool.decide_or, ↓tq_n, ↓tq_e, ↓tq_r, ↓bq_n, ↓bq_e, ↓bq_r, ↓rq_n, ↓rq_r, ↓rq_e]
      refine ⟨by rw [inR64]; omega, i + 1, by omega, by omega, ?_⟩
      rw [e1]
      exact (GStep.forget (by repeat' first | exact EnvLe.nil _ | refine EnvLe.cons (AV.le.of_eq rfl) ?_ | refine EnvLe.cons (AV.le.undef _) ?_ | refine EnvLe.cons AV.le.unk ?_) (by repeat' first | exact AH.le.refl _ | assumption | (refine AH.le_put ?_ (by first | assumption | exact (AH.blk_put_ne _ _ (by assumption)).trans (by assumption) | exact AH.none_put (by assumption) | exact AH.none_put (AH.none_put (by assumption)) | (simp only [AH.blk_setTok, AH.tok_put] at *; first | assumption | exact AH.none_put (by assumption)))) | (refine AH.le_setTok ?_ (by first | assumption | exact (AH.blk_put_ne _ _ (by assumption)).trans (by assumption) | exact AH.none_put (by assumption) | exact AH.none_put (AH.none_put (by assumption)) | (simp only [AH.blk_setTok, AH.tok_put] at *; first | assumption | exact AH.none_put (by assumption)))) | (refine AH.le_putM ?_ (by first | assumption | exact (AH.mp_putM_ne _ _ (by assumption)).trans (by assumption) | (simp only [AH.mp_put, AH.mp_setTok] at *; assumption)))))
    have e1 : mnL (clT l) (havI l k (i + 1)) = mnS (clT l) (mnL (clT l) (havI l k i)) i := by rw [havI, if_pos h6, mnL_snoc]
    cases hmn : mnL (clT l) (havI l k i) with
    | none =>
      have b0 : B none = -1 := by rw [hB]
      have c0 : (-1 : Int) < 0 := by omega
      rw [hmn] at e1
      have b1 : B (some i) = (i : Int) := by rw [hB]
      rw [b0]
      simp only [h6, c0, F_ref_First, g_ref_First, go_sem, reduceIte, Nat.reduceEqDiff, Nat.reduceAdd, Nat.reduceMul, Nat.reduceSub, reduceCtorEq, Nat.reduceLeDiff, Nat.reduceLT, Int.reduceLT, Int.reduceLE, Int.reduceToNat, Int.reduceAdd, Int.reduceSub, Int.reduceNeg, Int.reduceMul, Int.reduceEq, ← Bool.decide_and, ← Bool.decide_or, ↓tq_n, ↓tq_e, ↓tq_r, ↓bq_n, ↓bq_e, ↓bq_r, ↓rq_n, ↓rq_r, ↓rq_e]
      refine ⟨by rw [inR64]; omega, i + 1, by omega, by omega, ?_⟩
      rw [e1, mnS, b1]
      exact (GStep.forget (by repeat' first | exact EnvLe.nil _ | refine EnvLe.cons (AV.le.of_eq rfl) ?_ | refine EnvLe.cons (AV.le.undef _) ?_ | refine EnvLe.cons AV.le.unk ?_) (by repeat' first | exact AH.le.refl _ | assumption | (refine AH.le_put ?_ (by first | assumption | exact (AH.blk_put_ne _ _ (by assumption)).trans (by assumption) | exact AH.none_put (by assumption) | exact AH.none_put (AH.none_put (by assumption)) | (simp only [AH.blk_setTok, AH.tok_put] at *; first | assumption | exact AH.none_put (by assumption)))) | (refine AH.le_setTok ?_ (by first | assumption | exact (AH.blk_put_ne _ _ (by assumption)).trans (by assumption) | exact AH.none_put (by assumption) | exact AH.none_put (AH.none_put (by assumption)) | (simp only [AH.blk_setTok, AH.tok_put] at *; first | assumption | exact AH.none_put (by assumption)))) | (refine AH.le_putM ?_ (by first | assumption | exact (AH.mp_putM_ne _ _ (by assumption)).trans (by assumption) | (simp only [AH.mp_put, AH.mp_setTok] at *; assumption)))))
    | some m =>
      have hml := hlt i m (by omega) hmn
      have b0 : B (some m) = (m : Int) := by rw [hB]
      have c0 : ¬ (m : Int) < 0 := by omega
      have c1 : (m : Int) < (l.length : Int) := by omega
      rw [hmn, mnS] at e1
      rw [b0]
      by_cases h7 : (l.getD i dH).cl.2 < (l.getD m dH).cl.2
      · rw [if_pos (show clT l i < clT l m from h7)] at e1
        have b1 : B (some i) = (i : Int) := by rw [hB]
        simp only [h6, c0, c1, hc, hds_drop h5, hds_drop hml, h7, F_ref_First, g_ref_First, go_sem, reduceIte, Nat.reduceEqDiff, Nat.reduceAdd, Nat.reduceMul, Nat.reduceSub, reduceCtorEq, Nat.reduceLeDiff, Nat.reduceLT, Int.reduceLT, Int.reduceLE, Int.reduceToNat, Int.reduceAdd, Int.reduceSub, Int.reduceNeg, Int.reduceMul, Int.reduceEq, ← Bool.decide_and, ← Bool.decide_or, ↓tq_n, ↓tq_e, ↓tq_r, ↓bq_n, ↓bq_e, ↓bq_r, ↓rq_n, ↓rq_r, ↓rq_e]
        refine ⟨by rw [inR64]; omega, i + 1, by omega, by omega, ?_⟩
        rw [e1, b1]
        exact (GStep.forget (by repeat' first | exact EnvLe.nil _ | refine EnvLe.cons (AV.le.of_eq rfl) ?_ | refine EnvLe.cons (AV.le.undef _) ?_ | refine EnvLe.cons AV.le.unk ?_) (by repeat' first | exact AH.le.refl _ | assumption | (refine AH.le_put ?_ (by first | assumption | exact (AH.blk_put_ne _ _ (by assumption)).trans (by assumption) | exact AH.none_put (by assumption) | exact AH.none_put (AH.none_put (by assumption)) | (simp only [AH.blk_setTok, AH.tok_put] at *; first | assumption | exact AH.none_put (by assumption)))) | (refine AH.le_setTok ?_ (by first | assumption | exact (AH.blk_put_ne _ _ (by assumption)).trans (by assumption) | exact AH.none_put (by assumption) | exact AH.none_put (AH.none_put (by assumption)) | (simp only [AH.blk_setTok, AH.tok_put] at *; first | assumption | exact AH.none_put (by assumption)))) | (refine AH.le_putM ?_ (by first | assumption | exact (AH.mp_putM_ne _ _ (by assumption)).trans (by assumption) | (simp only [AH.mp_put, AH.mp_setTok] at *; assumption)))))
      · rw [if_neg (show ¬ clT l i < clT l m from h7)] at e1
        simp only [h6, c0, c1, hc, hds_drop h5, hds_drop hml, h7, F_ref_First, g_ref_First, go_sem, reduceIte, Nat.reduceEqDiff, Nat.reduceAdd, Nat.reduceMul, Nat.reduceSub, reduceCtorEq, Nat.reduceLeDiff, Nat.reduceLT, Int.reduceLT, Int.reduceLE, Int.reduceToNat, Int.reduceAdd, Int.reduceSub, Int.reduceNeg, Int.reduceMul, Int.reduceEq, ← Bool.decide_and, ← Bool.decide_or, ↓tq_n, ↓tq_e, ↓tq_r, ↓bq_n, ↓bq_e, ↓bq_r, ↓rq_n, ↓rq_r, ↓rq_e]
        refine ⟨by rw [inR64]; omega, i + 1, by omega, by omega, ?_⟩
        rw [e1, b0]
        exact (GStep.forget (by repeat' first | exact EnvLe.nil _ | refine EnvLe.cons (AV.le.of_eq rfl) ?_ | refine EnvLe.cons (AV.le.undef _) ?_ | refine EnvLe.cons AV.le.unk ?_) (by repeat' first | exact AH.le.refl _ | assumption | (refine AH.le_put ?_ (by first | assumption | exact (AH.blk_put_ne _ _ (by assumption)).trans (by assumption) | exact AH.none_put (by assumption) | exact AH.none_put (AH.none_put (by assumption)) | (simp only [AH.blk_setTok, AH.tok_put] at *; first | assumption | exact AH.none_put (by assumption)))) | (refine AH.le_setTok ?_ (by first | assumption | exact (AH.blk_put_ne _ _ (by assumption)).trans (by assumption) | exact AH.none_put (by assumption) | exact AH.none_put (AH.none_put (by assumption)) | (simp only [AH.blk_setTok, AH.tok_put] at *; first | assumption | exact AH.none_put (by assumption)))) | (refine AH.le_putM ?_ (by first | assumption | exact (AH.mp_putM_ne _ _ (by assumption)).trans (by assumption) | (simp only [AH.mp_put, AH.mp_setTok] at *; assumption)))))
  have h5 : i = l.length := by omega
  subst h5
  by_cases h6 : hav l k = []
  · have e0 : B (mnL (clT l) (havI l k l.length)) = -1 := by
      have : havI l k l.length = [] := h6
      rw [this, hB]; rfl
    have c0 : (-1 : Int) < 0 := by omega
    rw [e0]
    simp only [c0, F_ref_First, g_ref_First, go_sem, reduceIte, Nat.reduceEqDiff, Nat.reduceAdd, Nat.reduceMul, Nat.reduceSub, reduceCtorEq, Nat.reduceLeDiff, Nat.reduceLT, Int.reduceLT, Int.reduceLE, Int.reduceToNat, Int.reduceAdd, Int.reduceSub, Int.reduceNeg, Int.reduceMul, Int.reduceEq, ← Bool.decide_and, ← Bool.decide_or, ↓tq_n, ↓tq_e, ↓tq_r, ↓bq_n, ↓bq_e, ↓bq_r, ↓rq_n, ↓rq_r, ↓rq_e]
    exact ret_ok (by simp [firstV, havQ, h1, h6])
  · obtain ⟨m, e1, e2, e3⟩ := mnL_spec (clT l) (hav l k) h6
    have e0 : B (mnL (clT l) (havI l k l.length)) = (m : Int) := by
      have : mnL (clT l) (havI l k l.length) = some m := e1
      rw [this, hB]
    have c0 : ¬ (m : Int) < 0 := by omega
    rw [e0]
    simp only [c0, F_ref_First, g_ref_First, go_sem, reduceIte, Nat.reduceEqDiff, Nat.reduceAdd, Nat.reduceMul, Nat.reduceSub, reduceCtorEq, Nat.reduceLeDiff, Nat.reduceLT, Int.reduceLT, Int.reduceLE, Int.reduceToNat, Int.reduceAdd, Int.reduceSub, Int.reduceNeg, Int.reduceMul, Int.reduceEq, ← Bool.decide_and, ← Bool.decide_or, ↓tq_n, ↓tq_e, ↓tq_r, ↓bq_n, ↓bq_e, ↓bq_r, ↓rq_n, ↓rq_r, ↓rq_e]
    exact ret_ok (by simp [firstV, havQ, h1, h6, e1])

theorem r_years_Hull (a b : Int × Int) (ha : Yv a) (hb : Yv b) (h : AH) : RCall Try.prog n_years_Hull [.st [I a.1, I a.2], .st [I b.1, I b.2]] h (.tup [.st [I (min a.1 b.1), I (max a.2 b.2)], I 0]) := by
  refine RCall.of hm cF_years_Hull (by simp [g_years_Hull]) fun hw h' hl => ?_
  have ha' : Yv (a.1, a.2) := ha
  have hb' : Yv (b.1, b.2) := hb
  simp only [F_years_Hull, g_years_Hull, go_sem, reduceIte, Nat.reduceEqDiff, Nat.reduceAdd, Nat.reduceMul, Nat.reduceSub, reduceCtorEq, Nat.reduceLeDiff, Nat.reduceLT, Int.reduceLT, Int.reduceLE, Int.reduceToNat, Int.reduceAdd, Int.reduceSub, Int.reduceNeg, Int.reduceMul, Int.reduceEq, ← Bool.decide_and, ← Bool.decide_or, ↓tq_n, ↓tq_e, ↓tq_r, ↓bq_n, ↓bq_e, ↓bq_r, ↓rq_n, ↓rq_r, ↓rq_e]
  refine AllocG.mk fun b0 hb0 => ?_
  simp only [F_years_Hull, g_years_Hull, go_sem, reduceIte, Nat.reduceEqDiff, Nat.reduceAdd, Nat.reduceMul, Nat.reduceSub, reduceCtorEq, Nat.reduceLeDiff, Nat.reduceLT, Int.reduceLT, Int.reduceLE, Int.reduceToNat, Int.reduceAdd, Int.reduceSub, Int.reduceNeg, Int.reduceMul, Int.reduceEq, ← Bool.decide_and, ← Bool.decide_or, ↓tq_n, ↓tq_e, ↓tq_r, ↓bq_n, ↓bq_e, ↓bq_r, ↓rq_n, ↓rq_r, ↓rq_e]
  refine CallG.mk (r_years_Valid a.1 a.2 _) ?_
  simp only [decide_eq_true ha', F_years_Hull, g_years_Hull, go_sem, reduceIte, Nat.reduceEqDiff, Nat.reduceAdd, Nat.reduceMul, Nat.reduceSub, reduceCtorEq, Nat.reduceLeDiff, Nat.reduceLT, Int.reduceLT, Int.reduceLE, Int.reduceToNat, Int.reduceAdd, Int.reduceSub, Int.reduceNeg, Int.reduceMul, Int.reduceEq, ← Bool.decide_and, ← Bool.decide_or, ↓tq_n, ↓tq_e, ↓tq_r, ↓bq_n, ↓bq_e, ↓bq_r, ↓rq_n, ↓rq_r, ↓rq_e]
  refine CallG.mk (r_years_Valid b.1 b.2 _) ?_
  simp only [decide_eq_true hb', F_years_Hull, g_years_Hull, go_sem, reduceIte, Nat.reduceEqDiff, Nat.reduceAdd, Nat.reduceMul, Nat.reduceSub, reduceCtorEq, Nat.reduceLeDiff, Nat.reduceLT, Int.reduceLT, Int.reduceLE, Int.reduceToNat, Int.reduceAdd, Int.reduceSub, Int.reduceNeg, Int.reduceMul, Int.reduceEq, ← Bool.decide_and, ← Bool.decide_or, ↓tq_n, ↓tq_e, ↓tq_r, ↓bq_n, ↓bq_e, ↓bq_r, ↓rq_n, ↓rq_r, ↓rq_e]
  refine ret_hb (by repeat' first | exact AH.le.refl _ | assumption | (refine AH.le_put ?_ (by first | assumption | exact (AH.blk_put_ne _ _ (by assumption)).trans (by assumption) | exact AH.none_put (by assumption) | exact AH.none_put (AH.none_put (by assumption)) | (simp only [AH.blk_setTok, AH.tok_put] at *; first | assumption | exact AH.none_put (by assumption)))) | (refine AH.le_setTok ?_ (by first | assumption | exact (AH.blk_put_ne _ _ (by assumption)).trans (by assumption) | exact AH.none_put (by assumption) | exact AH.none_put (AH.none_put (by assumption)) | (simp only [AH.blk_setTok, AH.tok_put] at *; first | assumption | exact AH.none_put (by assumption)))) | (refine AH.le_putM ?_ (by first | assumption | exact (AH.mp_putM_ne _ _ (by assumption)).trans (by assumption) | (simp only [AH.mp_put, AH.mp_setTok] at *; assumption)))) ?_
  rfl

/-- Years that hold the closings of hoards. -/
def hul (l : List Hd) (q : Int × Int) (x : Nat) : Int × Int := (min q.1 (l.getD x dH).cl.1, max q.2 (l.getD x dH).cl.2)
def sprd (l : List Hd) (xs : List Nat) (p : Int × Int) : Int × Int := xs.foldl (hul l) p
theorem sprd_snoc (l : List Hd) (xs : List Nat) (x : Nat) (p : Int × Int) : sprd l (xs ++ [x]) p = hul l (sprd l xs p) x := by simp [sprd]
theorem sprd_spec (l : List Hd) (p : Int × Int) : ∀ xs : List Nat, ((sprd l xs p).1 ≤ p.1 ∧ p.2 ≤ (sprd l xs p).2) ∧ (∀ x ∈ xs, (sprd l xs p).1 ≤ (l.getD x dH).cl.1 ∧ (l.getD x dH).cl.2 ≤ (sprd l xs p).2) ∧
    ((sprd l xs p).1 = p.1 ∨ ∃ x ∈ xs, (sprd l xs p).1 = (l.getD x dH).cl.1) ∧ ((sprd l xs p).2 = p.2 ∨ ∃ x ∈ xs, (sprd l xs p).2 = (l.getD x dH).cl.2) := by
  refine rev_ind ?_ fun xs x ih => ?_
  · exact ⟨⟨Int.le_refl _, Int.le_refl _⟩, by simp, .inl rfl, .inl rfl⟩
  · obtain ⟨i1, i2, i3, i4⟩ := ih
    rw [sprd_snoc]
    unfold hul
    refine ⟨by simp only; omega, fun z hz => ?_, ?_, ?_⟩
    · rcases List.mem_append.1 hz with hz | hz
      · have := i2 z hz; simp only; omega
      · simp at hz; subst hz; simp only; omega
    · simp only
      by_cases hc : (sprd l xs p).1 ≤ (l.getD x dH).cl.1
      · rw [Int.min_eq_left hc]
        rcases i3 with i3 | ⟨z, z1, z2⟩
        · exact .inl i3
        · exact .inr ⟨z, by simp [z1], z2⟩
      · rw [Int.min_eq_right (by omega)]
        exact .inr ⟨x, by simp, rfl⟩
    · simp only
      by_cases hc : (l.getD x dH).cl.2 ≤ (sprd l xs p).2
      · rw [Int.max_eq_left hc]
        rcases i4 with i4 | ⟨z, z1, z2⟩
        · exact .inl i4
        · exact .inr ⟨z, by simp [z1], z2⟩
      · rw [Int.max_eq_right (by omega)]
        exact .inr ⟨x, by simp, rfl⟩
/-- Whatever hoard one begins with. -/
theorem sprd_same {l : List Hd} {xs : List Nat} {a b : Nat} (ha : a ∈ xs) (hb : b ∈ xs) : sprd l xs (l.getD a dH).cl = sprd l xs (l.getD b dH).cl := by
  obtain ⟨a1, a2, a3, a4⟩ := sprd_spec l (l.getD a dH).cl xs
  obtain ⟨b1, b2, b3, b4⟩ := sprd_spec l (l.getD b dH).cl xs
  have att : ∀ {z : Nat} {q : Int} {p : Int × Int}, z ∈ xs → (q = (l.getD z dH).cl.1 ∨ ∃ x ∈ xs, q = (l.getD x dH).cl.1) → ∃ x ∈ xs, q = (l.getD x dH).cl.1 := fun hz h => h.elim (fun e => ⟨_, hz, e⟩) id
  have att2 : ∀ {z : Nat} {q : Int} {p : Int × Int}, z ∈ xs → (q = (l.getD z dH).cl.2 ∨ ∃ x ∈ xs, q = (l.getD x dH).cl.2) → ∃ x ∈ xs, q = (l.getD x dH).cl.2 := fun hz h => h.elim (fun e => ⟨_, hz, e⟩) id
  obtain ⟨x1, m1, e1⟩ := att (p := (0, 0)) ha a3
  obtain ⟨x2, m2, e2⟩ := att (p := (0, 0)) hb b3
  obtain ⟨x3, m3, e3⟩ := att2 (p := (0, 0)) ha a4
  obtain ⟨x4, m4, e4⟩ := att2 (p := (0, 0)) hb b4
  have p1 := (a2 x2 m2).1
  have p2 := (b2 x1 m1).1
  have p3 := (a2 x4 m4).2
  have p4 := (b2 x3 m3).2
  exact Prod.ext (by omega) (by omega)
theorem sprd_yv {l : List Hd} {p : Int × Int} (hp : Yv p) : ∀ (xs : List Nat), (∀ x ∈ xs, Yv (l.getD x dH).cl) → Yv (sprd l xs p) := by
  refine rev_ind (fun _ => hp) fun xs x ih hx => ?_
  have h1 := ih fun z hz => hx z (by simp [hz])
  have h2 := hx x (by simp)
  rw [sprd_snoc]
  unfold hul Yv at *
  simp only
  omega
/-- The spread. -/
def sprV (l : List Hd) (k : Int) : Int × Int := sprd l (hav l k) (l.getD ((hav l k).getD 0 0) dH).cl
def spreadV (l : List Hd) (k : Int) : AV := if havQ l k = 0 then .tup [.st [I (sprV l k).1, I (sprV l k).2], I 0] else .tup [.st [I 0, I 0], I (havQ l k)]
theorem hav_yv {l : List Hd} {k : Int} (h : chk l = 0) : ∀ x ∈ hav l k, x < l.length ∧ Yv (l.getD x dH).cl := fun x hx => by
  have h1 := (mem_havI.1 hx).1
  exact ⟨h1, ((chk_vls h).2 x h1).1.2.2.2⟩

theorem r_burial_Spread (n1 : Bool) (l : List Hd) (u1 : Tail) (k : Int) (h : AH) : RCall Try.prog n_burial_Spread [.sl n1 l.length (hds l) u1, I k] h (spreadV l k) := by
  refine RCall.of hm cF_burial_Spread (by simp [g_burial_Spread]) fun hw h' hl => ?_
  simp only [F_burial_Spread, g_burial_Spread, go_sem, reduceIte, Nat.reduceEqDiff, Nat.reduceAdd, Nat.reduceMul, Nat.reduceSub, reduceCtorEq, Nat.reduceLeDiff, Nat.reduceLT, Int.reduceLT, Int.reduceLE, Int.reduceToNat, Int.reduceAdd, Int.reduceSub, Int.reduceNeg, Int.reduceMul, Int.reduceEq, ← Bool.decide_and, ← Bool.decide_or, ↓tq_n, ↓tq_e, ↓tq_r, ↓bq_n, ↓bq_e, ↓bq_r, ↓rq_n, ↓rq_r, ↓rq_e]
  refine AllocG.mk fun b4 hb4 => ?_
  simp only [F_burial_Spread, g_burial_Spread, go_sem, reduceIte, Nat.reduceEqDiff, Nat.reduceAdd, Nat.reduceMul, Nat.reduceSub, reduceCtorEq, Nat.reduceLeDiff, Nat.reduceLT, Int.reduceLT, Int.reduceLE, Int.reduceToNat, Int.reduceAdd, Int.reduceSub, Int.reduceNeg, Int.reduceMul, Int.reduceEq, ← Bool.decide_and, ← Bool.decide_or, ↓tq_n, ↓tq_e, ↓tq_r, ↓bq_n, ↓bq_e, ↓bq_r, ↓rq_n, ↓rq_r, ↓rq_e]
  refine CallG.mk (r_burial_having n1 l u1 k _) ?_
  unfold havV spreadV
  by_cases h1 : havQ l k = 0
  case neg =>
    rw [if_neg h1]
    simp only [h1, F_burial_Spread, g_burial_Spread, go_sem, reduceIte, Nat.reduceEqDiff, Nat.reduceAdd, Nat.reduceMul, Nat.reduceSub, reduceCtorEq, Nat.reduceLeDiff, Nat.reduceLT, Int.reduceLT, Int.reduceLE, Int.reduceToNat, Int.reduceAdd, Int.reduceSub, Int.reduceNeg, Int.reduceMul, Int.reduceEq, ← Bool.decide_and, ← Bool.decide_or, ↓tq_n, ↓tq_e, ↓tq_r, ↓bq_n, ↓bq_e, ↓bq_r, ↓rq_n, ↓rq_r, ↓rq_e]
    refine ret_hb (by repeat' first | exact AH.le.refl _ | assumption | (refine AH.le_put ?_ (by first | assumption | exact (AH.blk_put_ne _ _ (by assumption)).trans (by assumption) | exact AH.none_put (by assumption) | exact AH.none_put (AH.none_put (by assumption)) | (simp only [AH.blk_setTok, AH.tok_put] at *; first | assumption | exact AH.none_put (by assumption)))) | (refine AH.le_setTok ?_ (by first | assumption | exact (AH.blk_put_ne _ _ (by assumption)).trans (by assumption) | exact AH.none_put (by assumption) | exact AH.none_put (AH.none_put (by assumption)) | (simp only [AH.blk_setTok, AH.tok_put] at *; first | assumption | exact AH.none_put (by assumption)))) | (refine AH.le_putM ?_ (by first | assumption | exact (AH.mp_putM_ne _ _ (by assumption)).trans (by assumption) | (simp only [AH.mp_put, AH.mp_setTok] at *; assumption)))) ?_
    first | rfl | simp [h1]
  obtain ⟨q1, q2⟩ := havQ_ok h1
  obtain ⟨l8, _⟩ := chk_vls q1
  have hy := hav_yv (k := k) q1
  have hlen := havI_len l k l.length
  rw [if_pos h1]
  obtain ⟨x0, r0, hx0⟩ : ∃ x0 r0, hav l k = x0 :: r0 := by cases hh : hav l k with | nil => exact absurd hh q2 | cons a b => exact ⟨a, b, rfl⟩
  have hsp : sprV l k = sprd l r0 (l.getD x0 dH).cl := by
    unfold sprV
    rw [hx0]
    show (x0 :: r0).foldl (hul l) (l.getD x0 dH).cl = _
    rw [List.foldl_cons]
    have : hul l (l.getD x0 dH).cl x0 = (l.getD x0 dH).cl := by unfold hul; rw [Int.min_self, Int.max_self]
    rw [this]; rfl
  have hx0l := (hy x0 (by rw [hx0]; simp)).1
  have hx0y := (hy x0 (by rw [hx0]; simp)).2
  have hr : ∀ x ∈ r0, x < l.length ∧ Yv (l.getD x dH).cl := fun x hx => hy x (by rw [hx0]; simp [hx])
  have hrl : (hav l k).length = r0.length + 1 := by rw [hx0]; rfl
  have hr8 : r0.length ≤ 8 := by unfold hav at hrl; omega
  rw [hrl, hx0, gl_pos (by omega)]
  have hd0 : i64s (nats (x0 :: r0)) = I x0 :: i64s (nats r0) := rfl
  have c1 : (x0 : Int) < (l.length : Int) := by omega
  have c2 : (0 : Int) < ((r0.length + 1 : Nat) : Int) := by omega
  have c3 : ((r0.length + 1 : Nat) : Int).toNat = r0.length + 1 := by omega
  simp only [hd0, c1, c2, hds_drop hx0l, F_burial_Spread, g_burial_Spread, go_sem, reduceIte, Nat.reduceEqDiff, Nat.reduceAdd, Nat.reduceMul, Nat.reduceSub, reduceCtorEq, Nat.reduceLeDiff, Nat.reduceLT, Int.reduceLT, Int.reduceLE, Int.reduceToNat, Int.reduceAdd, Int.reduceSub, Int.reduceNeg, Int.reduceMul, Int.reduceEq, ← Bool.decide_and, ← Bool.decide_or, ↓tq_n, ↓tq_e, ↓tq_r, ↓bq_n, ↓bq_e, ↓bq_r, ↓rq_n, ↓rq_r, ↓rq_e]
  refine AllocG.mk fun b8 hb8 => ?_
  have hne : b8 ≠ b4 := AH.ne_of_put hb8
  have hb8' := AH.none_put hb8
  have ht : List.take r0.length (i64s (nats r0)) = i64s (nats r0) := List.take_of_length_le (by rw [i64s_len, nats_len]; exact Nat.le_refl _)
  have hs1 : r0.length + 1 - 1 = r0.length := by omega
  simp only [hs1, ht, F_burial_Spread, g_burial_Spread, go_sem, reduceIte, Nat.reduceEqDiff, Nat.reduceAdd, Nat.reduceMul, Nat.reduceSub, reduceCtorEq, Nat.reduceLeDiff, Nat.reduceLT, Int.reduceLT, Int.reduceLE, Int.reduceToNat, Int.reduceAdd, Int.reduceSub, Int.reduceNeg, Int.reduceMul, Int.reduceEq, ← Bool.decide_and, ← Bool.decide_or, ↓tq_n, ↓tq_e, ↓tq_r, ↓bq_n, ↓bq_e, ↓bq_r, ↓rq_n, ↓rq_r, ↓rq_e]
  obtain ⟨H, hH⟩ : ∃ H : AH, H = h'.put b4 [I 0, I 0] := ⟨_, rfl⟩
  have hHb : H.blk b4 = some [I 0, I 0] := by rw [hH, AH.blk_put]
  refine awp_loop (fun i : Nat => [(0, .sl n1 l.length (hds l) u1), (4, .ptr b4 0), (5, I 0), (8, .ptr b8 0), (29, .sl false r0.length (i64s (nats r0)) .unk), (30, I r0.length), (31, I i)]) (fun i => H.put b8 [I (sprd l (r0.take i) (l.getD x0 dH).cl).1, I (sprd l (r0.take i) (l.getD x0 dH).cl).2]) (fun i => i ≤ r0.length) (fun i => r0.length - i) 0 (Nat.zero_le _) (by rw [hH]; exact (GStep.forget (by repeat' first | exact EnvLe.nil _ | refine EnvLe.cons (AV.le.of_eq rfl) ?_ | refine EnvLe.cons (AV.le.undef _) ?_ | refine EnvLe.cons AV.le.unk ?_) (by repeat' first | exact AH.le.refl _ | assumption | (refine AH.le_put ?_ (by first | assumption | exact (AH.blk_put_ne _ _ (by assumption)).trans (by assumption) | exact AH.none_put (by assumption) | exact AH.none_put (AH.none_put (by assumption)) | (simp only [AH.blk_setTok, AH.tok_put] at *; first | assumption | exact AH.none_put (by assumption)))) | (refine AH.le_setTok ?_ (by first | assumption | exact (AH.blk_put_ne _ _ (by assumption)).trans (by assumption) | exact AH.none_put (by assumption) | exact AH.none_put (AH.none_put (by assumption)) | (simp only [AH.blk_setTok, AH.tok_put] at *; first | assumption | exact AH.none_put (by assumption)))) | (refine AH.le_putM ?_ (by first | assumption | exact (AH.mp_putM_ne _ _ (by assumption)).trans (by assumption) | (simp only [AH.mp_put, AH.mp_setTok] at *; assumption)))))) fun i hi => .of_vg hm ?_
  by_cases h5 : i < r0.length
  · have hc : (i : Int) < (r0.length : Int) := by omega
    obtain ⟨z, hz⟩ : ∃ z, z = r0.getD i 0 := ⟨_, rfl⟩
    have hzr := hr z (by rw [hz]; exact mem_getD h5)
    have hzc : (z : Int) < (l.length : Int) := by omega
    have hd : (i64s (nats r0)).drop i = I z :: (i64s (nats r0)).drop (i + 1) := by rw [i64s_drop (by rw [nats_len]; exact h5), nats_get h5, ← hz]
    have hst : sprd l (r0.take (i + 1)) (l.getD x0 dH).cl = hul l (sprd l (r0.take i) (l.getD x0 dH).cl) z := by rw [take_getD 0 h5, sprd_snoc, ← hz]
    have hyv := sprd_yv hx0y (r0.take i) (fun x hx => (hr x (List.mem_of_mem_take hx)).2)
    generalize sprd l (r0.take i) (l.getD x0 dH).cl = q at *
    simp only [hc, hd, hzc, hds_drop hzr.1, F_burial_Spread, g_burial_Spread, go_sem, reduceIte, Nat.reduceEqDiff, Nat.reduceAdd, Nat.reduceMul, Nat.reduceSub, reduceCtorEq, Nat.reduceLeDiff, Nat.reduceLT, Int.reduceLT, Int.reduceLE, Int.reduceToNat, Int.reduceAdd, Int.reduceSub, Int.reduceNeg, Int.reduceMul, Int.reduceEq, ← Bool.decide_and, ← Bool.decide_or, ↓tq_n, ↓tq_e, ↓tq_r, ↓bq_n, ↓bq_e, ↓bq_r, ↓rq_n, ↓rq_r, ↓rq_e]
    refine CallG.mk (r_years_Hull q (l.getD z dH).cl hyv hzr.2 _) ?_
    simp only [F_burial_Spread, g_burial_Spread, go_sem, reduceIte, Nat.reduceEqDiff, Nat.reduceAdd, Nat.reduceMul, Nat.reduceSub, reduceCtorEq, Nat.reduceLeDiff, Nat.reduceLT, Int.reduceLT, Int.reduceLE, Int.reduceToNat, Int.reduceAdd, Int.reduceSub, Int.reduceNeg, Int.reduceMul, Int.reduceEq, ← Bool.decide_and, ← Bool.decide_or, ↓tq_n, ↓tq_e, ↓tq_r, ↓bq_n, ↓bq_e, ↓bq_r, ↓rq_n, ↓rq_r, ↓rq_e]
    refine ⟨by rw [inR64]; omega, i + 1, by omega, by omega, ?_⟩
    rw [hst]
    exact (GStep.forget (by repeat' first | exact EnvLe.nil _ | refine EnvLe.cons (AV.le.of_eq rfl) ?_ | refine EnvLe.cons (AV.le.undef _) ?_ | refine EnvLe.cons AV.le.unk ?_) (by repeat' first | exact AH.le.refl _ | assumption | (refine AH.le_put ?_ (by first | assumption | exact (AH.blk_put_ne _ _ (by assumption)).trans (by assumption) | exact AH.none_put (by assumption) | exact AH.none_put (AH.none_put (by assumption)) | (simp only [AH.blk_setTok, AH.tok_put] at *; first | assumption | exact AH.none_put (by assumption)))) | (refine AH.le_setTok ?_ (by first | assumption | exact (AH.blk_put_ne _ _ (by assumption)).trans (by assumption) | exact AH.none_put (by assumption) | exact AH.none_put (AH.none_put (by assumption)) | (simp only [AH.blk_setTok, AH.tok_put] at *; first | assumption | exact AH.none_put (by assumption)))) | (refine AH.le_putM ?_ (by first | assumption | exact (AH.mp_putM_ne _ _ (by assumption)).trans (by assumption) | (simp only [AH.mp_put, AH.mp_setTok] at *; assumption)))))
  have h5 : i = r0.length := by omega
  subst h5
  rw [List.take_length, ← hsp]
  simp only [AH.blk_put_ne _ _ hne.symm, hHb, F_burial_Spread, g_burial_Spread, go_sem, reduceIte, Nat.reduceEqDiff, Nat.reduceAdd, Nat.reduceMul, Nat.reduceSub, reduceCtorEq, Nat.reduceLeDiff, Nat.reduceLT, Int.reduceLT, Int.reduceLE, Int.reduceToNat, Int.reduceAdd, Int.reduceSub, Int.reduceNeg, Int.reduceMul, Int.reduceEq, ← Bool.decide_and, ← Bool.decide_or, ↓tq_n, ↓tq_e, ↓tq_r, ↓bq_n, ↓bq_e, ↓bq_r, ↓rq_n, ↓rq_r, ↓rq_e]
  refine ret_hb ?_ (by rw [if_pos h1])
  have : h'.le H := by rw [hH]; exact (by repeat' first | exact AH.le.refl _ | assumption | (refine AH.le_put ?_ (by first | assumption | exact (AH.blk_put_ne _ _ (by assumption)).trans (by assumption) | exact AH.none_put (by assumption) | exact AH.none_put (AH.none_put (by assumption)) | (simp only [AH.blk_setTok, AH.tok_put] at *; first | assumption | exact AH.none_put (by assumption)))) | (refine AH.le_setTok ?_ (by first | assumption | exact (AH.blk_put_ne _ _ (by assumption)).trans (by assumption) | exact AH.none_put (by assumption) | exact AH.none_put (AH.none_put (by assumption)) | (simp only [AH.blk_setTok, AH.tok_put] at *; first | assumption | exact AH.none_put (by assumption)))) | (refine AH.le_putM ?_ (by first | assumption | exact (AH.mp_putM_ne _ _ (by assumption)).trans (by assumption) | (simp only [AH.mp_put, AH.mp_setTok] at *; assumption))))
  exact (by repeat' first | exact AH.le.refl _ | assumption | (refine AH.le_put ?_ (by first | assumption | exact (AH.blk_put_ne _ _ (by assumption)).trans (by assumption) | exact AH.none_put (by assumption) | exact AH.none_put (AH.none_put (by assumption)) | (simp only [AH.blk_setTok, AH.tok_put] at *; first | assumption | exact AH.none_put (by assumption)))) | (refine AH.le_setTok ?_ (by first | assumption | exact (AH.blk_put_ne _ _ (by assumption)).trans (by assumption) | exact AH.none_put (by assumption) | exact AH.none_put (AH.none_put (by assumption)) | (simp only [AH.blk_setTok, AH.tok_put] at *; first | assumption | exact AH.none_put (by assumption)))) | (refine AH.le_putM ?_ (by first | assumption | exact (AH.mp_putM_ne _ _ (by assumption)).trans (by assumption) | (simp only [AH.mp_put, AH.mp_setTok] at *; assumption))))

/-- The hoards with a type among the first i, spread from years on. -/
theorem r_ref_Spread (n1 : Bool) (l : List Hd) (u1 : Tail) (k : Int) (h : AH) : RCall Try.prog n_ref_Spread [.sl n1 l.length (hds l) u1, I k] h (spreadV l k) := by
  refine RCall.of hm cF_ref_Spread (by simp [g_ref_Spread]) fun hw h' hl => ?_
  simp only [F_ref_Spread, g_ref_Spread, go_sem, reduceIte, Nat.reduceEqDiff, Nat.reduceAdd, Nat.reduceMul, Nat.reduceSub, reduceCtorEq, Nat.reduceLeDiff, Nat.reduceLT, Int.reduceLT, Int.reduceLE, Int.reduceToNat, Int.reduceAdd, Int.reduceSub, Int.reduceNeg, Int.reduceMul, Int.reduceEq, ← Bool.decide_and, ← Bool.decide_or, ↓tq_n, ↓tq_e, ↓tq_r, ↓bq_n, ↓bq_e, ↓bq_r, ↓rq_n, ↓rq_r, ↓rq_e]
  refine AllocG.mk fun b4 hb4 => ?_
  simp only [F_ref_Spread, g_ref_Spread, go_sem, reduceIte, Nat.reduceEqDiff, Nat.reduceAdd, Nat.reduceMul, Nat.reduceSub, reduceCtorEq, Nat.reduceLeDiff, Nat.reduceLT, Int.reduceLT, Int.reduceLE, Int.reduceToNat, Int.reduceAdd, Int.reduceSub, Int.reduceNeg, Int.reduceMul, Int.reduceEq, ← Bool.decide_and, ← Bool.decide_or, ↓tq_n, ↓tq_e, ↓tq_r, ↓bq_n, ↓bq_e, ↓bq_r, ↓rq_n, ↓rq_r, ↓rq_e]
  refine CallG.mk (r_ref_First n1 l u1 k _) ?_
  unfold firstV spreadV
  by_cases h1 : havQ l k = 0
  case neg =>
    rw [if_neg h1]
    simp only [h1, F_ref_Spread, g_ref_Spread, go_sem, reduceIte, Nat.reduceEqDiff, Nat.reduceAdd, Nat.reduceMul, Nat.reduceSub, reduceCtorEq, Nat.reduceLeDiff, Nat.reduceLT, Int.reduceLT, Int.reduceLE, Int.reduceToNat, Int.reduceAdd, Int.reduceSub, Int.reduceNeg, Int.reduceMul, Int.reduceEq, ← Bool.decide_and, ← Bool.decide_or, ↓tq_n, ↓tq_e, ↓tq_r, ↓bq_n, ↓bq_e, ↓bq_r, ↓rq_n, ↓rq_r, ↓rq_e]
    refine ret_hb (by repeat' first | exact AH.le.refl _ | assumption | (refine AH.le_put ?_ (by first | assumption | exact (AH.blk_put_ne _ _ (by assumption)).trans (by assumption) | exact AH.none_put (by assumption) | exact AH.none_put (AH.none_put (by assumption)) | (simp only [AH.blk_setTok, AH.tok_put] at *; first | assumption | exact AH.none_put (by assumption)))) | (refine AH.le_setTok ?_ (by first | assumption | exact (AH.blk_put_ne _ _ (by assumption)).trans (by assumption) | exact AH.none_put (by assumption) | exact AH.none_put (AH.none_put (by assumption)) | (simp only [AH.blk_setTok, AH.tok_put] at *; first | assumption | exact AH.none_put (by assumption)))) | (refine AH.le_putM ?_ (by first | assumption | exact (AH.mp_putM_ne _ _ (by assumption)).trans (by assumption) | (simp only [AH.mp_put, AH.mp_setTok] at *; assumption)))) ?_
    first | rfl | simp [h1]
  obtain ⟨q1, q2⟩ := havQ_ok h1
  obtain ⟨l8, _⟩ := chk_vls q1
  have hy := hav_yv (k := k) q1
  obtain ⟨m, e1, e2, e3⟩ := mnL_spec (clT l) (hav l k) q2
  have hml := (hy m e2).1
  have hmc : (m : Int) < (l.length : Int) := by omega
  have h0 : (hav l k).getD 0 0 ∈ hav l k := by
    refine mem_getD ?_
    rcases Nat.eq_zero_or_pos (hav l k).length with hz | hz
    · exact absurd (List.eq_nil_of_length_eq_zero hz) q2
    · exact hz
  have hsp : sprV l k = sprd l (hav l k) (l.getD m dH).cl := sprd_same h0 e2
  rw [if_pos h1, e1]
  simp only [hmc, hds_drop hml, F_ref_Spread, g_ref_Spread, go_sem, reduceIte, Nat.reduceEqDiff, Nat.reduceAdd, Nat.reduceMul, Nat.reduceSub, reduceCtorEq, Nat.reduceLeDiff, Nat.reduceLT, Int.reduceLT, Int.reduceLE, Int.reduceToNat, Int.reduceAdd, Int.reduceSub, Int.reduceNeg, Int.reduceMul, Int.reduceEq, ← Bool.decide_and, ← Bool.decide_or, ↓tq_n, ↓tq_e, ↓tq_r, ↓bq_n, ↓bq_e, ↓bq_r, ↓rq_n, ↓rq_r, ↓rq_e]
  refine AllocG.mk fun b8 hb8 => ?_
  have hne : b8 ≠ b4 := AH.ne_of_put hb8
  have hb8' := AH.none_put hb8
  simp only [F_ref_Spread, g_ref_Spread, go_sem, reduceIte, Nat.reduceEqDiff, Nat.reduceAdd, Nat.reduceMul, Nat.reduceSub, reduceCtorEq, Nat.reduceLeDiff, Nat.reduceLT, Int.reduceLT, Int.reduceLE, Int.reduceToNat, Int.reduceAdd, Int.reduceSub, Int.reduceNeg, Int.reduceMul, Int.reduceEq, ← Bool.decide_and, ← Bool.decide_or, ↓tq_n, ↓tq_e, ↓tq_r, ↓bq_n, ↓bq_e, ↓bq_r, ↓rq_n, ↓rq_r, ↓rq_e]
  obtain ⟨H, hH⟩ : ∃ H : AH, H = h'.put b4 [I 0, I 0] := ⟨_, rfl⟩
  have hHb : H.blk b4 = some [I 0, I 0] := by rw [hH, AH.blk_put]
  refine awp_loop (fun i : Nat => [(0, .sl n1 l.length (hds l) u1), (1, I k), (4, .ptr b4 0), (5, I 0), (8, .ptr b8 0), (9, I i)]) (fun i => H.put b8 [I (sprd l (havI l k i) (l.getD m dH).cl).1, I (sprd l (havI l k i) (l.getD m dH).cl).2]) (fun i => i ≤ l.length) (fun i => l.length - i) 0 (Nat.zero_le _) (by rw [hH]; exact (GStep.forget (by repeat' first | exact EnvLe.nil _ | refine EnvLe.cons (AV.le.of_eq rfl) ?_ | refine EnvLe.cons (AV.le.undef _) ?_ | refine EnvLe.cons AV.le.unk ?_) (by repeat' first | exact AH.le.refl _ | assumption | (refine AH.le_put ?_ (by first | assumption | exact (AH.blk_put_ne _ _ (by assumption)).trans (by assumption) | exact AH.none_put (by assumption) | exact AH.none_put (AH.none_put (by assumption)) | (simp only [AH.blk_setTok, AH.tok_put] at *; first | assumption | exact AH.none_put (by assumption)))) | (refine AH.le_setTok ?_ (by first | assumption | exact (AH.blk_put_ne _ _ (by assumption)).trans (by assumption) | exact AH.none_put (by assumption) | exact AH.none_put (AH.none_put (by assumption)) | (simp only [AH.blk_setTok, AH.tok_put] at *; first | assumption | exact AH.none_put (by assumption)))) | (refine AH.le_putM ?_ (by first | assumption | exact (AH.mp_putM_ne _ _ (by assumption)).trans (by assumption) | (simp only [AH.mp_put, AH.mp_setTok] at *; assumption)))))) fun i hi => .of_vg hm ?_
  by_cases h5 : i < l.length
  · have hc : (i : Int) < (l.length : Int) := by omega
    simp only [hc, hds_drop h5, F_ref_Spread, g_ref_Spread, go_sem, reduceIte, Nat.reduceEqDiff, Nat.reduceAdd, Nat.reduceMul, Nat.reduceSub, reduceCtorEq, Nat.reduceLeDiff, Nat.reduceLT, Int.reduceLT, Int.reduceLE, Int.reduceToNat, Int.reduceAdd, Int.reduceSub, Int.reduceNeg, Int.reduceMul, Int.reduceEq, ← Bool.decide_and, ← Bool.decide_or, ↓tq_n, ↓tq_e, ↓tq_r, ↓bq_n, ↓bq_e, ↓bq_r, ↓rq_n, ↓rq_r, ↓rq_e]
    refine CallG.mk (r_ref_Number (l.getD i dH) k _) ?_
    by_cases h6 : 0 < numI (l.getD i dH) k
    · have hst : sprd l (havI l k (i + 1)) (l.getD m dH).cl = hul l (sprd l (havI l k i) (l.getD m dH).cl) i := by rw [havI, if_pos h6, sprd_snoc]
      generalize sprd l (havI l k i) (l.getD m dH).cl = q at *
      simp only [h6, hc, hds_drop h5, F_ref_Spread, g_ref_Spread, go_sem, reduceIte, Nat.reduceEqDiff, Nat.reduceAdd, Nat.reduceMul, Nat.reduceSub, reduceCtorEq, Nat.reduceLeDiff, Nat.reduceLT, Int.reduceLT, Int.reduceLE, Int.reduceToNat, Int.reduceAdd, Int.reduceSub, Int.reduceNeg, Int.reduceMul, Int.reduceEq, ← Bool.decide_and, ← Bool.decide_or, ↓tq_n, ↓tq_e, ↓tq_r, ↓bq_n, ↓bq_e, ↓bq_r, ↓rq_n, ↓rq_r, ↓rq_e]
      refine ⟨by rw [inR64]; omega, i + 1, by omega, by omega, ?_⟩
      rw [hst]
      exact (GStep.forget (by repeat' first | exact EnvLe.nil _ | refine EnvLe.cons (AV.le.of_eq rfl) ?_ | refine EnvLe.cons (AV.le.undef _) ?_ | refine EnvLe.cons AV.le.unk ?_) (by repeat' first | exact AH.le.refl _ | assumption | (refine AH.le_put ?_ (by first | assumption | exact (AH.blk_put_ne _ _ (by assumption)).trans (by assumption) | exact AH.none_put (by assumption) | exact AH.none_put (AH.none_put (by assumption)) | (simp only [AH.blk_setTok, AH.tok_put] at *; first | assumption | exact AH.none_put (by assumption)))) | (refine AH.le_setTok ?_ (by first | assumption | exact (AH.blk_put_ne _ _ (by assumption)).trans (by assumption) | exact AH.none_put (by assumption) | exact AH.none_put (AH.none_put (by assumption)) | (simp only [AH.blk_setTok, AH.tok_put] at *; first | assumption | exact AH.none_put (by assumption)))) | (refine AH.le_putM ?_ (by first | assumption | exact (AH.mp_putM_ne _ _ (by assumption)).trans (by assumption) | (simp only [AH.mp_put, AH.mp_setTok] at *; assumption)))))
    · have hst : havI l k (i + 1) = havI l k i := by rw [havI, if_neg h6]
      simp only [h6, F_ref_Spread, g_ref_Spread, go_sem, reduceIte, Nat.reduceEqDiff, Nat.reduceAdd, Nat.reduceMul, Nat.reduceSub, reduceCtorEq, Nat.reduceLeDiff, Nat.reduceLT, Int.reduceLT, Int.reduceLE, Int.reduceToNat, Int.reduceAdd, Int.reduceSub, Int.reduceNeg, Int.reduceMul, Int.reduceEq, ← Bool.decide_and, ← Bool.decide_or, ↓tq_n, ↓tq_e, ↓tq_r, ↓bq_n, ↓bq_e, ↓bq_r, ↓rq_n, ↓rq_r, ↓rq_e]
      refine ⟨by rw [inR64]; omega, i + 1, by omega, by omega, ?_⟩
      rw [hst]
      exact (GStep.forget (by repeat' first | exact EnvLe.nil _ | refine EnvLe.cons (AV.le.of_eq rfl) ?_ | refine EnvLe.cons (AV.le.undef _) ?_ | refine EnvLe.cons AV.le.unk ?_) (by repeat' first | exact AH.le.refl _ | assumption | (refine AH.le_put ?_ (by first | assumption | exact (AH.blk_put_ne _ _ (by assumption)).trans (by assumption) | exact AH.none_put (by assumption) | exact AH.none_put (AH.none_put (by assumption)) | (simp only [AH.blk_setTok, AH.tok_put] at *; first | assumption | exact AH.none_put (by assumption)))) | (refine AH.le_setTok ?_ (by first | assumption | exact (AH.blk_put_ne _ _ (by assumption)).trans (by assumption) | exact AH.none_put (by assumption) | exact AH.none_put (AH.none_put (by assumption)) | (simp only [AH.blk_setTok, AH.tok_put] at *; first | assumption | exact AH.none_put (by assumption)))) | (refine AH.le_putM ?_ (by first | assumption | exact (AH.mp_putM_ne _ _ (by assumption)).trans (by assumption) | (simp only [AH.mp_put, AH.mp_setTok] at *; assumption)))))
  have h5 : i = l.length := by omega
  subst h5
  have hsp2 : sprd l (havI l k l.length) (l.getD m dH).cl = sprV l k := hsp.symm
  rw [hsp2]
  simp only [AH.blk_put_ne _ _ hne.symm, hHb, F_ref_Spread, g_ref_Spread, go_sem, reduceIte, Nat.reduceEqDiff, Nat.reduceAdd, Nat.reduceMul, Nat.reduceSub, reduceCtorEq, Nat.reduceLeDiff, Nat.reduceLT, Int.reduceLT, Int.reduceLE, Int.reduceToNat, Int.reduceAdd, Int.reduceSub, Int.reduceNeg, Int.reduceMul, Int.reduceEq, ← Bool.decide_and, ← Bool.decide_or, ↓tq_n, ↓tq_e, ↓tq_r, ↓bq_n, ↓bq_e, ↓bq_r, ↓rq_n, ↓rq_r, ↓rq_e]
  refine ret_hb ?_ (by rw [if_pos h1])
  have : h'.le H := by rw [hH]; exact (by repeat' first | exact AH.le.refl _ | assumption | (refine AH.le_put ?_ (by first | assumption | exact (AH.blk_put_ne _ _ (by assumption)).trans (by assumption) | exact AH.none_put (by assumption) | exact AH.none_put (AH.none_put (by assumption)) | (simp only [AH.blk_setTok, AH.tok_put] at *; first | assumption | exact AH.none_put (by assumption)))) | (refine AH.le_setTok ?_ (by first | assumption | exact (AH.blk_put_ne _ _ (by assumption)).trans (by assumption) | exact AH.none_put (by assumption) | exact AH.none_put (AH.none_put (by assumption)) | (simp only [AH.blk_setTok, AH.tok_put] at *; first | assumption | exact AH.none_put (by assumption)))) | (refine AH.le_putM ?_ (by first | assumption | exact (AH.mp_putM_ne _ _ (by assumption)).trans (by assumption) | (simp only [AH.mp_put, AH.mp_setTok] at *; assumption))))
  exact (by repeat' first | exact AH.le.refl _ | assumption | (refine AH.le_put ?_ (by first | assumption | exact (AH.blk_put_ne _ _ (by assumption)).trans (by assumption) | exact AH.none_put (by assumption) | exact AH.none_put (AH.none_put (by assumption)) | (simp only [AH.blk_setTok, AH.tok_put] at *; first | assumption | exact AH.none_put (by assumption)))) | (refine AH.le_setTok ?_ (by first | assumption | exact (AH.blk_put_ne _ _ (by assumption)).trans (by assumption) | exact AH.none_put (by assumption) | exact AH.none_put (AH.none_put (by assumption)) | (simp only [AH.blk_setTok, AH.tok_put] at *; first | assumption | exact AH.none_put (by assumption)))) | (refine AH.le_putM ?_ (by first | assumption | exact (AH.mp_putM_ne _ _ (by assumption)).trans (by assumption) | (simp only [AH.mp_put, AH.mp_setTok] at *; assumption))))
end Go.Proofs.Ytnekkkjedmlloaa
