/- Calls of functions of this seat's program: the document's order of items. No condition. -/
import Derived.Test.YtkoecjhjdckgeaaD2
import Derived.Test.YtkoecjhjdckgeaaC5
namespace Go.Proofs.Ytkoecjhjdckgeaa
open Go Go.Abs
set_option linter.unusedSimpArgs false
set_option linter.unusedVariables false
set_option maxRecDepth 20000

theorem bfI_asymm {a b : It} (h : bfI a b) : ¬ bfI b a := by unfold bfI at *; omega
theorem bfI_ntrans {a b c : It} (h1 : ¬ bfI a b) (h2 : ¬ bfI b c) : ¬ bfI a c := by unfold bfI at *; omega
theorem bfI_anti {a b : It} (h1 : ¬ bfI a b) (h2 : ¬ bfI b a) : a = b := by
  obtain ⟨a1, a2, a3⟩ := a
  obtain ⟨b1, b2, b3⟩ := b
  unfold bfI at *
  simp only at h1 h2
  simp only [Prod.mk.injEq]
  omega
theorem r_ref_before (a b : It) (h : AH) : RCall Try.prog n_ref_before [i3 a, i3 b] h (.bool (decide (bfI a b))) := by
  refine RCall.of hm cF_ref_before (by simp [g_ref_before]) fun hw h' _ => ?_
  by_cases h1 : a.2.2 = b.2.2
  · by_cases h2 : a.2.1 = b.2.1
    · simp only [h1, h2, F_ref_before, g_ref_before, go_sem, reduceIte, Nat.reduceEqDiff, Nat.reduceAdd, Nat.reduceMul, Nat.reduceSub, reduceCtorEq, Nat.reduceLeDiff, Nat.reduceLT, Int.reduceLT, Int.reduceLE, Int.reduceToNat, Int.reduceAdd, Int.reduceSub, Int.reduceNeg, Int.reduceMul, Int.reduceEq, ← Bool.decide_and, ← Bool.decide_or, ↓tq_n, ↓tq_e, ↓tq_r, ↓bq_n, ↓bq_e, ↓bq_r, ↓rq_n, ↓rq_r, ↓rq_e]
      have e : (bfI a b) ↔ (a.1 < b.1) := by unfold bfI; omega
      exact ret_ok (by simp only [e])
    · simp only [h1, h2, F_ref_before, g_ref_before, go_sem, reduceIte, Nat.reduceEqDiff, Nat.reduceAdd, Nat.reduceMul, Nat.reduceSub, reduceCtorEq, Nat.reduceLeDiff, Nat.reduceLT, Int.reduceLT, Int.reduceLE, Int.reduceToNat, Int.reduceAdd, Int.reduceSub, Int.reduceNeg, Int.reduceMul, Int.reduceEq, ← Bool.decide_and, ← Bool.decide_or, ↓tq_n, ↓tq_e, ↓tq_r, ↓bq_n, ↓bq_e, ↓bq_r, ↓rq_n, ↓rq_r, ↓rq_e]
      have e : (bfI a b) ↔ (b.2.1 < a.2.1) := by unfold bfI; omega
      exact ret_ok (by simp only [e])
  · simp only [h1, F_ref_before, g_ref_before, go_sem, reduceIte, Nat.reduceEqDiff, Nat.reduceAdd, Nat.reduceMul, Nat.reduceSub, reduceCtorEq, Nat.reduceLeDiff, Nat.reduceLT, Int.reduceLT, Int.reduceLE, Int.reduceToNat, Int.reduceAdd, Int.reduceSub, Int.reduceNeg, Int.reduceMul, Int.reduceEq, ← Bool.decide_and, ← Bool.decide_or, ↓tq_n, ↓tq_e, ↓tq_r, ↓bq_n, ↓bq_e, ↓bq_r, ↓rq_n, ↓rq_r, ↓rq_e]
    have e : (bfI a b) ↔ (b.2.2 < a.2.2) := by unfold bfI; omega
    exact ret_ok (by simp only [e])

theorem le_putdel {h : AH} {b : Nat} {cs : List AV} (hb : h.blk b = none) : h.le ((h.put b cs).del b) := ⟨fun x c e => by
  have hne : x ≠ b := fun hh => by subst hh; rw [hb] at e; cases e
  show (if x = b then none else if x = b then some cs else h.blk x) = some c
  rw [if_neg hne, if_neg hne]; exact e, fun _ _ e => e, fun _ _ e => e⟩
/-- In order up to i, but for place k. -/
def Ins (k i : Nat) (ys : List It) : Prop := ∀ p q, p < q → q ≤ i → q ≠ k → ¬ bfI (ys.getD q dI) (ys.getD p dI)
def swA (ys : List It) (k : Nat) : List It := (ys.set (k + 1) (ys.getD k dI)).set k (ys.getD (k + 1) dI)
theorem swA_len (ys : List It) (k : Nat) : (swA ys k).length = ys.length := by simp [swA]
theorem swA_get {ys : List It} {k : Nat} (h : k + 1 < ys.length) (j : Nat) : (swA ys k).getD j dI = if j = k then ys.getD (k + 1) dI else if j = k + 1 then ys.getD k dI else ys.getD j dI := by
  unfold swA
  simp only [List.getD, List.getElem?_set, List.length_set]
  by_cases h1 : j = k
  · subst h1; simp [show j < ys.length by omega, h]
  · by_cases h2 : j = k + 1
    · subst h2; simp [h, show k < ys.length by omega]
    · have g1 : ¬ k = j := fun hh => h1 hh.symm
      have g2 : ¬ k + 1 = j := fun hh => h2 hh.symm
      simp only [h1, h2, g1, g2, if_false]
theorem swA_perm {ys : List It} {k : Nat} (h : k + 1 < ys.length) : (swA ys k).Perm ys := by
  obtain ⟨a, b, r, t, rfl, rfl⟩ : ∃ a b r t, ys = t ++ a :: b :: r ∧ t.length = k := by
    refine ⟨ys[k], ys[k + 1], ys.drop (k + 2), ys.take k, ?_, by simp; omega⟩
    rw [← List.drop_eq_getElem_cons h, ← List.drop_eq_getElem_cons (by omega), List.take_append_drop]
  have e : swA (t ++ a :: b :: r) t.length = t ++ b :: a :: r := by
    unfold swA
    simp [List.getD, List.set_append]
  rw [e]
  exact (List.Perm.swap a b r).append_left t
theorem ins_start {i : Nat} {ys : List It} (h : ∀ p q, p < q → q < i → ¬ bfI (ys.getD q dI) (ys.getD p dI)) : Ins i i ys := fun p q h1 h2 h3 => h p q h1 (by omega)
theorem ins_step {k i : Nat} {ys : List It} (hk : k + 1 ≤ i) (hi : i < ys.length) (h : Ins (k + 1) i ys) (hb : bfI (ys.getD (k + 1) dI) (ys.getD k dI)) : Ins k i (swA ys k) := by
  intro p q h1 h2 h3
  rw [swA_get (by omega), swA_get (by omega)]
  by_cases q1 : q = k + 1
  · rw [if_neg h3, if_pos q1]
    by_cases p1 : p = k
    · rw [if_pos p1]; exact bfI_asymm hb
    · rw [if_neg p1, if_neg (by omega)]; exact h p k (by omega) (by omega) (by omega)
  · rw [if_neg h3, if_neg q1]
    by_cases p1 : p = k
    · rw [if_pos p1]; exact h (k + 1) q (by omega) h2 q1
    · by_cases p2 : p = k + 1
      · rw [if_neg p1, if_pos p2]; exact h k q (by omega) h2 q1
      · rw [if_neg p1, if_neg p2]; exact h p q h1 h2 q1
theorem ins_end {k i : Nat} {ys : List It} (hk : k ≤ i) (h : Ins k i ys) (hb : k = 0 ∨ ¬ bfI (ys.getD k dI) (ys.getD (k - 1) dI)) : ∀ p q, p < q → q < i + 1 → ¬ bfI (ys.getD q dI) (ys.getD p dI) := by
  intro p q h1 h2
  by_cases q1 : q = k
  · subst q1
    rcases hb with hb | hb
    · omega
    · rcases Nat.lt_or_ge p (q - 1) with h3 | h3
      · exact bfI_ntrans hb (h p (q - 1) h3 (by omega) (by omega))
      · rwa [show p = q - 1 by omega]
  · exact h p q h1 (by omega) q1

theorem trs_cons (x : It) (l : List It) : trs (x :: l) = I x.1 :: I x.2.1 :: I x.2.2 :: trs l := rfl
theorem trs_spl {ys : List It} {k : Nat} (h : k < ys.length) (x : It) : spl (trs ys) (k * 3) [I x.1, I x.2.1, I x.2.2] = trs (ys.set k x) := by
  have e1 : trs ys = trs (ys.take k) ++ (trs [ys[k]] ++ trs (ys.drop (k + 1))) := by
    rw [← trs_append, ← trs_append, List.singleton_append, ← List.drop_eq_getElem_cons h, List.take_append_drop]
  have e2 : (trs (ys.take k)).length = k * 3 := by rw [trs_len, List.length_take, Nat.min_eq_left (by omega)]
  rw [spl_eq _ _ _ (by rw [trs_len]; simp only [List.length_cons, List.length_nil]; omega), List.set_eq_take_append_cons_drop, if_pos h, trs_append, trs_cons]
  have e3 : (trs ys).take (k * 3) = trs (ys.take k) := by
    conv => lhs; rw [e1]
    rw [← e2, List.take_left']
    rfl
  have e4 : (trs ys).drop (k * 3 + 3) = trs (ys.drop (k + 1)) := by
    conv => lhs; rw [e1]
    rw [← List.append_assoc, show k * 3 + 3 = (trs (ys.take k) ++ trs [ys[k]]).length by rw [List.length_append, e2]; rfl, List.drop_left']
    rfl
  simp only [List.length_cons, List.length_nil]
  rw [e3, e4]
  simp
/-- The items in order: what Go's sort makes of them. -/
theorem r_ref_Tall (nl : Bool) (l : List It) (tl : Tail) (h0 : itQ l = 0) (h00 : 0 < l.length) (zs : List It) (hz : ∀ ys : List It, ys.Perm l → (∀ p q, p < q → q < ys.length → ¬ bfI (ys.getD q dI) (ys.getD p dI)) → ys = zs) (h : AH) :
    RCall Try.prog n_ref_TallW [.sl nl l.length (trs l) tl] h (.tup [.sl false zs.length (trs zs) .unk, I 0]) := by
  refine RCall.of hm cF_ref_TallW (by simp [g_ref_TallW]) fun hw h' hl => ?_
  obtain ⟨k4, k5⟩ := itQ_ok h0
  simp only [F_ref_TallW, g_ref_TallW, go_sem, reduceIte, Nat.reduceEqDiff, Nat.reduceAdd, Nat.reduceMul, Nat.reduceSub, reduceCtorEq, Nat.reduceLeDiff, Nat.reduceLT, Int.reduceLT, Int.reduceLE, Int.reduceToNat, Int.reduceAdd, Int.reduceSub, Int.reduceNeg, Int.reduceMul, Int.reduceEq, ← Bool.decide_and, ← Bool.decide_or, ↓tq_n, ↓tq_e, ↓tq_r, ↓bq_n, ↓bq_e, ↓bq_r, ↓rq_n, ↓rq_r, ↓rq_e]
  refine CallG.mk (r_ref_items nl l tl _) ?_
  simp only [h0, F_ref_TallW, g_ref_TallW, go_sem, reduceIte, Nat.reduceEqDiff, Nat.reduceAdd, Nat.reduceMul, Nat.reduceSub, reduceCtorEq, Nat.reduceLeDiff, Nat.reduceLT, Int.reduceLT, Int.reduceLE, Int.reduceToNat, Int.reduceAdd, Int.reduceSub, Int.reduceNeg, Int.reduceMul, Int.reduceEq, ← Bool.decide_and, ← Bool.decide_or, ↓tq_n, ↓tq_e, ↓tq_r, ↓bq_n, ↓bq_e, ↓bq_r, ↓rq_n, ↓rq_r, ↓rq_e]
  refine ⟨trs_len l, h00, by omega, by omega, MslG.mk fun b hb => ?_⟩
  simp only [F_ref_TallW, g_ref_TallW, go_sem, reduceIte, Nat.reduceEqDiff, Nat.reduceAdd, Nat.reduceMul, Nat.reduceSub, reduceCtorEq, Nat.reduceLeDiff, Nat.reduceLT, Int.reduceLT, Int.reduceLE, Int.reduceToNat, Int.reduceAdd, Int.reduceSub, Int.reduceNeg, Int.reduceMul, Int.reduceEq, ← Bool.decide_and, ← Bool.decide_or, ↓tq_n, ↓tq_e, ↓tq_r, ↓bq_n, ↓bq_e, ↓bq_r, ↓rq_n, ↓rq_r, ↓rq_e]
  refine awp_loop (α := Nat × List It) (fun y => [(5, .msl b 0 l.length none), (6, I y.1)]) (fun y => h'.put b (trs y.2)) (fun y => (1 ≤ y.1 ∧ y.1 ≤ l.length) ∧ y.2.Perm l ∧ ∀ p q, p < q → q < y.1 → ¬ bfI (y.2.getD q dI) (y.2.getD p dI)) (fun y => l.length - y.1) (1, l) ⟨⟨Nat.le_refl _, h00⟩, .refl l, fun p q h1 h2 => by simp only at h2; omega⟩ (GStep.forget (by repeat' first | exact EnvLe.nil _ | refine EnvLe.cons (AV.le.of_eq rfl) ?_ | refine EnvLe.cons (AV.le.undef _) ?_ | refine EnvLe.cons AV.le.unk ?_) (by repeat' first | exact AH.le.refl _ | assumption | (refine AH.le_put ?_ (by first | assumption | exact (AH.blk_put_ne _ _ (by assumption)).trans (by assumption) | exact AH.none_put (by assumption) | exact AH.none_put (AH.none_put (by assumption)) | (simp only [AH.blk_setTok, AH.tok_put] at *; first | assumption | exact AH.none_put (by assumption)))) | (refine AH.le_setTok ?_ (by first | assumption | exact (AH.blk_put_ne _ _ (by assumption)).trans (by assumption) | exact AH.none_put (by assumption) | exact AH.none_put (AH.none_put (by assumption)) | (simp only [AH.blk_setTok, AH.tok_put] at *; first | assumption | exact AH.none_put (by assumption)))) | (refine AH.le_putM ?_ (by first | assumption | exact (AH.mp_putM_ne _ _ (by assumption)).trans (by assumption) | (simp only [AH.mp_put, AH.mp_setTok] at *; assumption))))) fun y hy => .of_vg hm ?_
  obtain ⟨i, ys⟩ := y
  obtain ⟨⟨h1, h2⟩, h3, h4⟩ := hy
  simp only at h1 h2 h3 h4 ⊢
  have hyl := h3.length_eq
  by_cases h5 : i < l.length
  case neg =>
    have h5 : i = l.length := by omega
    subst h5
    simp only [F_ref_TallW, g_ref_TallW, go_sem, reduceIte, Nat.reduceEqDiff, Nat.reduceAdd, Nat.reduceMul, Nat.reduceSub, reduceCtorEq, Nat.reduceLeDiff, Nat.reduceLT, Int.reduceLT, Int.reduceLE, Int.reduceToNat, Int.reduceAdd, Int.reduceSub, Int.reduceNeg, Int.reduceMul, Int.reduceEq, ← Bool.decide_and, ← Bool.decide_or, ↓tq_n, ↓tq_e, ↓tq_r, ↓bq_n, ↓bq_e, ↓bq_r, ↓rq_n, ↓rq_r, ↓rq_e]
    have e1 : ys = zs := hz ys h3 (by rw [hyl]; exact h4)
    rw [← e1]
    have hf := RGh.fix (n := l.length) (cap := none) (AH.blk_put h' b (trs ys)) 3
    rw [List.take_of_length_le (by rw [trs_len]; omega), ← hyl] at hf
    rw [← hyl]
    exact ⟨_, h', (@RGh.tupAt [] [I 0] _ _ _ _ hf).trans (RGh.forget (AV.le.refl _) (le_putdel hb)), rfl, rfl⟩
  have hc5 : (i : Int) < (l.length : Int) := by omega
  simp only [hc5, F_ref_TallW, g_ref_TallW, go_sem, reduceIte, Nat.reduceEqDiff, Nat.reduceAdd, Nat.reduceMul, Nat.reduceSub, reduceCtorEq, Nat.reduceLeDiff, Nat.reduceLT, Int.reduceLT, Int.reduceLE, Int.reduceToNat, Int.reduceAdd, Int.reduceSub, Int.reduceNeg, Int.reduceMul, Int.reduceEq, ← Bool.decide_and, ← Bool.decide_or, ↓tq_n, ↓tq_e, ↓tq_r, ↓bq_n, ↓bq_e, ↓bq_r, ↓rq_n, ↓rq_r, ↓rq_e]
  refine awp_loop (α := Nat × List It) (fun y => [(5, .msl b 0 l.length none), (6, I i), (7, I y.1)]) (fun y => h'.put b (trs y.2)) (fun y => y.1 ≤ i ∧ y.2.Perm l ∧ Ins y.1 i y.2) (fun y => y.1) (i, ys) ⟨Nat.le_refl _, h3, ins_start h4⟩ (GStep.forget (by repeat' first | exact EnvLe.nil _ | refine EnvLe.cons (AV.le.of_eq rfl) ?_ | refine EnvLe.cons (AV.le.undef _) ?_ | refine EnvLe.cons AV.le.unk ?_) (by repeat' first | exact AH.le.refl _ | assumption | (refine AH.le_put ?_ (by first | assumption | exact (AH.blk_put_ne _ _ (by assumption)).trans (by assumption) | exact AH.none_put (by assumption) | exact AH.none_put (AH.none_put (by assumption)) | (simp only [AH.blk_setTok, AH.tok_put] at *; first | assumption | exact AH.none_put (by assumption)))) | (refine AH.le_setTok ?_ (by first | assumption | exact (AH.blk_put_ne _ _ (by assumption)).trans (by assumption) | exact AH.none_put (by assumption) | exact AH.none_put (AH.none_put (by assumption)) | (simp only [AH.blk_setTok, AH.tok_put] at *; first | assumption | exact AH.none_put (by assumption)))) | (refine AH.le_putM ?_ (by first | assumption | exact (AH.mp_putM_ne _ _ (by assumption)).trans (by assumption) | (simp only [AH.mp_put, AH.mp_setTok] at *; assumption))))) fun y hy => .of_vg hm ?_
  obtain ⟨k, us⟩ := y
  obtain ⟨q1, q2, q3⟩ := hy
  simp only at q1 q2 q3 ⊢
  have hul := q2.length_eq
  cases k with
  | zero =>
    have hz0 : ¬ (0 : Int) < ((0 : Nat) : Int) := by omega
    simp only [hz0, F_ref_TallW, g_ref_TallW, go_sem, reduceIte, Nat.reduceEqDiff, Nat.reduceAdd, Nat.reduceMul, Nat.reduceSub, reduceCtorEq, Nat.reduceLeDiff, Nat.reduceLT, Int.reduceLT, Int.reduceLE, Int.reduceToNat, Int.reduceAdd, Int.reduceSub, Int.reduceNeg, Int.reduceMul, Int.reduceEq, ← Bool.decide_and, ← Bool.decide_or, ↓tq_n, ↓tq_e, ↓tq_r, ↓bq_n, ↓bq_e, ↓bq_r, ↓rq_n, ↓rq_r, ↓rq_e]
    exact ⟨by rw [inR64]; omega, (i + 1, us), ⟨⟨by simp only; omega, by simp only; omega⟩, q2, ins_end (by omega) q3 (.inl rfl)⟩, by simp only; omega, (GStep.forget (by repeat' first | exact EnvLe.nil _ | refine EnvLe.cons (AV.le.of_eq rfl) ?_ | refine EnvLe.cons (AV.le.undef _) ?_ | refine EnvLe.cons AV.le.unk ?_) (by repeat' first | exact AH.le.refl _ | assumption | (refine AH.le_put ?_ (by first | assumption | exact (AH.blk_put_ne _ _ (by assumption)).trans (by assumption) | exact AH.none_put (by assumption) | exact AH.none_put (AH.none_put (by assumption)) | (simp only [AH.blk_setTok, AH.tok_put] at *; first | assumption | exact AH.none_put (by assumption)))) | (refine AH.le_setTok ?_ (by first | assumption | exact (AH.blk_put_ne _ _ (by assumption)).trans (by assumption) | exact AH.none_put (by assumption) | exact AH.none_put (AH.none_put (by assumption)) | (simp only [AH.blk_setTok, AH.tok_put] at *; first | assumption | exact AH.none_put (by assumption)))) | (refine AH.le_putM ?_ (by first | assumption | exact (AH.mp_putM_ne _ _ (by assumption)).trans (by assumption) | (simp only [AH.mp_put, AH.mp_setTok] at *; assumption)))))⟩
  | succ k =>
    have hk0 : (0 : Int) < ((k + 1 : Nat) : Int) := by omega
    have hk1 : ((k + 1 : Nat) : Int) < (l.length : Int) := by omega
    have hk2 : ((k + 1 : Nat) : Int) - 1 = (k : Int) := by omega
    have hk3 : (k : Int) < (l.length : Int) := by omega
    have d1 := trs_dropI (l := us) (i := k + 1) (by omega)
    have d2 := trs_dropI (l := us) (i := k) (by omega)
    simp only [hk0, hk1, hk2, hk3, d1, d2, F_ref_TallW, g_ref_TallW, go_sem, reduceIte, Nat.reduceEqDiff, Nat.reduceAdd, Nat.reduceMul, Nat.reduceSub, reduceCtorEq, Nat.reduceLeDiff, Nat.reduceLT, Int.reduceLT, Int.reduceLE, Int.reduceToNat, Int.reduceAdd, Int.reduceSub, Int.reduceNeg, Int.reduceMul, Int.reduceEq, ← Bool.decide_and, ← Bool.decide_or, ↓tq_n, ↓tq_e, ↓tq_r, ↓bq_n, ↓bq_e, ↓bq_r, ↓rq_n, ↓rq_r, ↓rq_e]
    refine ⟨by rw [inR64]; omega, CallG.mk (r_ref_before (us.getD (k + 1) dI) (us.getD k dI) _) ?_⟩
    by_cases hb1 : bfI (us.getD (k + 1) dI) (us.getD k dI)
    · rw [decide_eq_true hb1]
      have s1 := trs_spl (ys := us) (k := k + 1) (by omega) (us.getD k dI)
      have s2 := trs_spl (ys := us.set (k + 1) (us.getD k dI)) (k := k) (by rw [List.length_set]; omega) (us.getD (k + 1) dI)
      simp only [spl] at s1 s2
      simp only [hk0, hk1, hk2, hk3, d1, d2, F_ref_TallW, g_ref_TallW, go_sem, reduceIte, Nat.reduceEqDiff, Nat.reduceAdd, Nat.reduceMul, Nat.reduceSub, reduceCtorEq, Nat.reduceLeDiff, Nat.reduceLT, Int.reduceLT, Int.reduceLE, Int.reduceToNat, Int.reduceAdd, Int.reduceSub, Int.reduceNeg, Int.reduceMul, Int.reduceEq, ← Bool.decide_and, ← Bool.decide_or, ↓tq_n, ↓tq_e, ↓tq_r, ↓bq_n, ↓bq_e, ↓bq_r, ↓rq_n, ↓rq_r, ↓rq_e]
      rw [s1, s2]
      exact ⟨by rw [inR64]; omega, by rw [inR64]; omega, by rw [trs_len]; omega, by rw [trs_len, List.length_set]; omega, by rw [inR64]; omega, (k, swA us k), ⟨by simp only; omega, (swA_perm (by omega)).trans q2, ins_step q1 (by omega) q3 hb1⟩, by simp only; omega, (GStep.forget (by repeat' first | exact EnvLe.nil _ | refine EnvLe.cons (AV.le.of_eq rfl) ?_ | refine EnvLe.cons (AV.le.undef _) ?_ | refine EnvLe.cons AV.le.unk ?_) (by repeat' first | exact AH.le.refl _ | assumption | (refine AH.le_put ?_ (by first | assumption | exact (AH.blk_put_ne _ _ (by assumption)).trans (by assumption) | exact AH.none_put (by assumption) | exact AH.none_put (AH.none_put (by assumption)) | (simp only [AH.blk_setTok, AH.tok_put] at *; first | assumption | exact AH.none_put (by assumption)))) | (refine AH.le_setTok ?_ (by first | assumption | exact (AH.blk_put_ne _ _ (by assumption)).trans (by assumption) | exact AH.none_put (by assumption) | exact AH.none_put (AH.none_put (by assumption)) | (simp only [AH.blk_setTok, AH.tok_put] at *; first | assumption | exact AH.none_put (by assumption)))) | (refine AH.le_putM ?_ (by first | assumption | exact (AH.mp_putM_ne _ _ (by assumption)).trans (by assumption) | (simp only [AH.mp_put, AH.mp_setTok] at *; assumption)))))⟩
    · rw [decide_eq_false hb1]
      simp only [F_ref_TallW, g_ref_TallW, go_sem, reduceIte, Nat.reduceEqDiff, Nat.reduceAdd, Nat.reduceMul, Nat.reduceSub, reduceCtorEq, Nat.reduceLeDiff, Nat.reduceLT, Int.reduceLT, Int.reduceLE, Int.reduceToNat, Int.reduceAdd, Int.reduceSub, Int.reduceNeg, Int.reduceMul, Int.reduceEq, ← Bool.decide_and, ← Bool.decide_or, ↓tq_n, ↓tq_e, ↓tq_r, ↓bq_n, ↓bq_e, ↓bq_r, ↓rq_n, ↓rq_r, ↓rq_e]
      exact ⟨by rw [inR64]; omega, (i + 1, us), ⟨⟨by simp only; omega, by simp only; omega⟩, q2, ins_end (by omega) q3 (.inr hb1)⟩, by simp only; omega, (GStep.forget (by repeat' first | exact EnvLe.nil _ | refine EnvLe.cons (AV.le.of_eq rfl) ?_ | refine EnvLe.cons (AV.le.undef _) ?_ | refine EnvLe.cons AV.le.unk ?_) (by repeat' first | exact AH.le.refl _ | assumption | (refine AH.le_put ?_ (by first | assumption | exact (AH.blk_put_ne _ _ (by assumption)).trans (by assumption) | exact AH.none_put (by assumption) | exact AH.none_put (AH.none_put (by assumption)) | (simp only [AH.blk_setTok, AH.tok_put] at *; first | assumption | exact AH.none_put (by assumption)))) | (refine AH.le_setTok ?_ (by first | assumption | exact (AH.blk_put_ne _ _ (by assumption)).trans (by assumption) | exact AH.none_put (by assumption) | exact AH.none_put (AH.none_put (by assumption)) | (simp only [AH.blk_setTok, AH.tok_put] at *; first | assumption | exact AH.none_put (by assumption)))) | (refine AH.le_putM ?_ (by first | assumption | exact (AH.mp_putM_ne _ _ (by assumption)).trans (by assumption) | (simp only [AH.mp_put, AH.mp_setTok] at *; assumption)))))⟩
end Go.Proofs.Ytkoecjhjdckgeaa
