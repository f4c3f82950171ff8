/- Calls of functions of this seat's program: orders and colorings. No condition. -/
import Derived.Test.YticiimmfjdkimaaC6
import Derived.Test.YticiimmfjdkimaaD7
import Derived.Test.YticiimmfjdkimaaA23
namespace Go.Proofs.Yticiimmfjdkimaa
open Go Go.Abs
set_option linter.unusedSimpArgs false
set_option linter.unusedVariables false
set_option maxRecDepth 20000

def Prm (l : List Int) (n : Nat) : Prop := l.length = n ∧ ∀ i, i < n → (0 ≤ l.getD i 0 ∧ l.getD i 0 < n) ∧ ∀ k, k < i → l.getD i 0 ≠ l.getD k 0
instance (l : List Int) (n : Nat) : Decidable (Prm l n) := by unfold Prm; infer_instance
theorem r_base_Order (nl : Bool) (l : List Int) (tl : Tail) (n : Nat) (h : AH) : RCall Try.prog n_base_OrderW [.sl nl l.length (i64s l) tl, I n] h (.bool (decide (Prm l n))) := by
  refine RCall.of hm cF_base_OrderW (by simp [g_base_OrderW]) fun hw h' hl => ?_
  have hx := wf_len (hw _ (.head _))
  simp only [F_base_OrderW, g_base_OrderW, go_sem, reduceIte, Nat.reduceEqDiff, Nat.reduceAdd, Nat.reduceMul, Nat.reduceSub, reduceCtorEq, Nat.reduceLeDiff, Nat.reduceLT, Int.reduceLT, Int.reduceLE, Int.reduceToNat, Int.reduceAdd, Int.reduceSub, Int.reduceNeg, Int.reduceMul, Int.reduceEq, ← Bool.decide_and, ← Bool.decide_or, ↓tq_n, ↓tq_e, ↓tq_r, ↓bq_n, ↓bq_e, ↓bq_r, ↓rq_n, ↓rq_r, ↓rq_e]
  refine ⟨fun h0 => ?_, fun h0 => ?_⟩
  · have : ¬ Prm l n := fun hp => by have := hp.1; omega
    exact ret_ok (by simp [this])
  have hln : l.length = n := by omega
  have no : ∀ i, i < n → ¬ ((0 ≤ l.getD i 0 ∧ l.getD i 0 < n) ∧ ∀ k, k < i → l.getD i 0 ≠ l.getD k 0) → decide (Prm l n) = false := fun i hi hn => decide_eq_false fun hp => hn (hp.2 i hi)
  refine awp_loop (fun i : Nat => [(0, .sl nl l.length (i64s l) tl), (1, I n), (5, I i)]) (fun _ => h') (fun i => i ≤ n ∧ ∀ j, j < i → (0 ≤ l.getD j 0 ∧ l.getD j 0 < n) ∧ ∀ k, k < j → l.getD j 0 ≠ l.getD k 0) (fun i => n - i) 0 ⟨Nat.zero_le _, fun j hj => absurd hj (Nat.not_lt_zero _)⟩ (GStep.forget (by repeat' first | exact EnvLe.nil _ | refine EnvLe.cons (AV.le.of_eq rfl) ?_ | refine EnvLe.cons (AV.le.undef _) ?_ | refine EnvLe.cons AV.le.unk ?_) (by repeat' first | exact AH.le.refl _ | assumption | (refine AH.le_put ?_ (by first | assumption | exact (AH.blk_put_ne _ _ (by assumption)).trans (by assumption) | exact AH.none_put (by assumption) | exact AH.none_put (AH.none_put (by assumption)) | (simp only [AH.blk_setTok, AH.tok_put] at *; first | assumption | exact AH.none_put (by assumption)))) | (refine AH.le_setTok ?_ (by first | assumption | exact (AH.blk_put_ne _ _ (by assumption)).trans (by assumption) | exact AH.none_put (by assumption) | exact AH.none_put (AH.none_put (by assumption)) | (simp only [AH.blk_setTok, AH.tok_put] at *; first | assumption | exact AH.none_put (by assumption)))) | (refine AH.le_putM ?_ (by first | assumption | exact (AH.mp_putM_ne _ _ (by assumption)).trans (by assumption) | (simp only [AH.mp_put, AH.mp_setTok] at *; assumption))))) fun i hi => .of_vg hm ?_
  obtain ⟨h1, h2⟩ := hi
  by_cases h3 : i < n
  · have hc : (i : Int) < (n : Int) := by omega
    have hc2 : (i : Int) < (l.length : Int) := by omega
    have hil : i < l.length := by omega
    simp only [hc, hc2, i64s_drop hil, F_base_OrderW, g_base_OrderW, go_sem, reduceIte, Nat.reduceEqDiff, Nat.reduceAdd, Nat.reduceMul, Nat.reduceSub, reduceCtorEq, Nat.reduceLeDiff, Nat.reduceLT, Int.reduceLT, Int.reduceLE, Int.reduceToNat, Int.reduceAdd, Int.reduceSub, Int.reduceNeg, Int.reduceMul, Int.reduceEq, ← Bool.decide_and, ← Bool.decide_or, ↓tq_n, ↓tq_e, ↓tq_r, ↓bq_n, ↓bq_e, ↓bq_r, ↓rq_n, ↓rq_r, ↓rq_e]
    refine ⟨fun h4 => ?_, fun h4 => ⟨fun h5 => ?_, fun h5 => ?_⟩⟩
    · exact ret_ok (by rw [no i h3 (fun hh => by have := hh.1; omega)])
    · exact ret_ok (by rw [no i h3 (fun hh => by have := hh.1; omega)])
    refine awp_loop (fun k : Nat => [(0, .sl nl l.length (i64s l) tl), (1, I n), (5, I i), (6, I k)]) (fun _ => h') (fun k => k ≤ i ∧ ∀ j, j < k → l.getD i 0 ≠ l.getD j 0) (fun k => i - k) 0 ⟨Nat.zero_le _, fun j hj => absurd hj (Nat.not_lt_zero _)⟩ (GStep.forget (by repeat' first | exact EnvLe.nil _ | refine EnvLe.cons (AV.le.of_eq rfl) ?_ | refine EnvLe.cons (AV.le.undef _) ?_ | refine EnvLe.cons AV.le.unk ?_) (by repeat' first | exact AH.le.refl _ | assumption | (refine AH.le_put ?_ (by first | assumption | exact (AH.blk_put_ne _ _ (by assumption)).trans (by assumption) | exact AH.none_put (by assumption) | exact AH.none_put (AH.none_put (by assumption)) | (simp only [AH.blk_setTok, AH.tok_put] at *; first | assumption | exact AH.none_put (by assumption)))) | (refine AH.le_setTok ?_ (by first | assumption | exact (AH.blk_put_ne _ _ (by assumption)).trans (by assumption) | exact AH.none_put (by assumption) | exact AH.none_put (AH.none_put (by assumption)) | (simp only [AH.blk_setTok, AH.tok_put] at *; first | assumption | exact AH.none_put (by assumption)))) | (refine AH.le_putM ?_ (by first | assumption | exact (AH.mp_putM_ne _ _ (by assumption)).trans (by assumption) | (simp only [AH.mp_put, AH.mp_setTok] at *; assumption))))) fun k hk => .of_vg hm ?_
    obtain ⟨k1, k2⟩ := hk
    by_cases k3 : k < i
    · have kc : (k : Int) < (i : Int) := by omega
      have kc2 : (k : Int) < (l.length : Int) := by omega
      simp only [hc2, kc, kc2, i64s_drop hil, i64s_drop (show k < l.length by omega), F_base_OrderW, g_base_OrderW, go_sem, reduceIte, Nat.reduceEqDiff, Nat.reduceAdd, Nat.reduceMul, Nat.reduceSub, reduceCtorEq, Nat.reduceLeDiff, Nat.reduceLT, Int.reduceLT, Int.reduceLE, Int.reduceToNat, Int.reduceAdd, Int.reduceSub, Int.reduceNeg, Int.reduceMul, Int.reduceEq, ← Bool.decide_and, ← Bool.decide_or, ↓tq_n, ↓tq_e, ↓tq_r, ↓bq_n, ↓bq_e, ↓bq_r, ↓rq_n, ↓rq_r, ↓rq_e]
      refine ⟨fun h6 => ?_, fun h6 => ⟨by rw [inR64]; omega, k + 1, ⟨by omega, all_succ k2 h6⟩, by omega, (GStep.forget (by repeat' first | exact EnvLe.nil _ | refine EnvLe.cons (AV.le.of_eq rfl) ?_ | refine EnvLe.cons (AV.le.undef _) ?_ | refine EnvLe.cons AV.le.unk ?_) (by repeat' first | exact AH.le.refl _ | assumption | (refine AH.le_put ?_ (by first | assumption | exact (AH.blk_put_ne _ _ (by assumption)).trans (by assumption) | exact AH.none_put (by assumption) | exact AH.none_put (AH.none_put (by assumption)) | (simp only [AH.blk_setTok, AH.tok_put] at *; first | assumption | exact AH.none_put (by assumption)))) | (refine AH.le_setTok ?_ (by first | assumption | exact (AH.blk_put_ne _ _ (by assumption)).trans (by assumption) | exact AH.none_put (by assumption) | exact AH.none_put (AH.none_put (by assumption)) | (simp only [AH.blk_setTok, AH.tok_put] at *; first | assumption | exact AH.none_put (by assumption)))) | (refine AH.le_putM ?_ (by first | assumption | exact (AH.mp_putM_ne _ _ (by assumption)).trans (by assumption) | (simp only [AH.mp_put, AH.mp_setTok] at *; assumption)))))⟩⟩
      exact ret_ok (by rw [no i h3 (fun hh => hh.2 k k3 h6)])
    · have k3 : k = i := by omega
      subst k3
      simp only [F_base_OrderW, g_base_OrderW, go_sem, reduceIte, Nat.reduceEqDiff, Nat.reduceAdd, Nat.reduceMul, Nat.reduceSub, reduceCtorEq, Nat.reduceLeDiff, Nat.reduceLT, Int.reduceLT, Int.reduceLE, Int.reduceToNat, Int.reduceAdd, Int.reduceSub, Int.reduceNeg, Int.reduceMul, Int.reduceEq, ← Bool.decide_and, ← Bool.decide_or, ↓tq_n, ↓tq_e, ↓tq_r, ↓bq_n, ↓bq_e, ↓bq_r, ↓rq_n, ↓rq_r, ↓rq_e]
      exact ⟨by rw [inR64]; omega, k + 1, ⟨by omega, all_succ h2 ⟨by omega, k2⟩⟩, by omega, (GStep.forget (by repeat' first | exact EnvLe.nil _ | refine EnvLe.cons (AV.le.of_eq rfl) ?_ | refine EnvLe.cons (AV.le.undef _) ?_ | refine EnvLe.cons AV.le.unk ?_) (by repeat' first | exact AH.le.refl _ | assumption | (refine AH.le_put ?_ (by first | assumption | exact (AH.blk_put_ne _ _ (by assumption)).trans (by assumption) | exact AH.none_put (by assumption) | exact AH.none_put (AH.none_put (by assumption)) | (simp only [AH.blk_setTok, AH.tok_put] at *; first | assumption | exact AH.none_put (by assumption)))) | (refine AH.le_setTok ?_ (by first | assumption | exact (AH.blk_put_ne _ _ (by assumption)).trans (by assumption) | exact AH.none_put (by assumption) | exact AH.none_put (AH.none_put (by assumption)) | (simp only [AH.blk_setTok, AH.tok_put] at *; first | assumption | exact AH.none_put (by assumption)))) | (refine AH.le_putM ?_ (by first | assumption | exact (AH.mp_putM_ne _ _ (by assumption)).trans (by assumption) | (simp only [AH.mp_put, AH.mp_setTok] at *; assumption)))))⟩
  · have h3 : i = n := by omega
    subst h3
    simp only [F_base_OrderW, g_base_OrderW, go_sem, reduceIte, Nat.reduceEqDiff, Nat.reduceAdd, Nat.reduceMul, Nat.reduceSub, reduceCtorEq, Nat.reduceLeDiff, Nat.reduceLT, Int.reduceLT, Int.reduceLE, Int.reduceToNat, Int.reduceAdd, Int.reduceSub, Int.reduceNeg, Int.reduceMul, Int.reduceEq, ← Bool.decide_and, ← Bool.decide_or, ↓tq_n, ↓tq_e, ↓tq_r, ↓bq_n, ↓bq_e, ↓bq_r, ↓rq_n, ↓rq_r, ↓rq_e]
    have : Prm l i := ⟨hln, h2⟩
    exact ret_ok (by simp [this])

/-- A coloring. -/
def isC (n : Int) (e : List (Int × Int)) (c : List Int) : Prop := Vd n e ∧ (c.length : Int) = n ∧ (∀ i, i < c.length → 0 ≤ c.getD i 0) ∧ ∀ k, k < e.length → c.getD (e.getD k (0, 0)).1.toNat 0 ≠ c.getD (e.getD k (0, 0)).2.toNat 0
instance (n : Int) (e : List (Int × Int)) (c : List Int) : Decidable (isC n e c) := by unfold isC; infer_instance
theorem vd_at {n : Int} {e : List (Int × Int)} (hv : Vd n e) {k : Nat} (hk : k < e.length) : 0 ≤ (e.getD k (0, 0)).1 ∧ (e.getD k (0, 0)).1 < (e.getD k (0, 0)).2 ∧ (e.getD k (0, 0)).2 < n := vd_mem hv (mem_getD hk)
theorem r_coloring_Is_1 (x : Int) (h : AH) : RCall Try.prog n_coloring_Is_1W [I x] h (.bool (decide (x < 0))) := by
  refine RCall.of hm cF_coloring_Is_1W (by simp [g_coloring_Is_1W]) fun hw h' hl => ?_
  simp only [F_coloring_Is_1W, g_coloring_Is_1W, go_sem, reduceIte, Nat.reduceEqDiff, Nat.reduceAdd, Nat.reduceMul, Nat.reduceSub, reduceCtorEq, Nat.reduceLeDiff, Nat.reduceLT, Int.reduceLT, Int.reduceLE, Int.reduceToNat, Int.reduceAdd, Int.reduceSub, Int.reduceNeg, Int.reduceMul, Int.reduceEq, ← Bool.decide_and, ← Bool.decide_or, ↓tq_n, ↓tq_e, ↓tq_r, ↓bq_n, ↓bq_e, ↓bq_r, ↓rq_n, ↓rq_r, ↓rq_e]
  exact ret_ok rfl
theorem r_coloring_Is_2 (a b : Int) (c : List Int) (nl : Bool) (tl : Tail) (h : AH) (h1 : 0 ≤ a ∧ a < c.length) (h2 : 0 ≤ b ∧ b < c.length) : RCall Try.prog n_coloring_Is_2W [.st [I a, I b], .sptr [.sl nl c.length (i64s c) tl]] h (.bool (decide (c.getD a.toNat 0 = c.getD b.toNat 0))) := by
  refine RCall.of hm cF_coloring_Is_2W (by simp [g_coloring_Is_2W]) fun hw h' hl => ?_
  have d1 : a.toNat < c.length := by omega
  have d2 : b.toNat < c.length := by omega
  simp only [i64s_drop d1, i64s_drop d2, h1.1, h1.2, h2.1, h2.2, F_coloring_Is_2W, g_coloring_Is_2W, go_sem, reduceIte, Nat.reduceEqDiff, Nat.reduceAdd, Nat.reduceMul, Nat.reduceSub, reduceCtorEq, Nat.reduceLeDiff, Nat.reduceLT, Int.reduceLT, Int.reduceLE, Int.reduceToNat, Int.reduceAdd, Int.reduceSub, Int.reduceNeg, Int.reduceMul, Int.reduceEq, ← Bool.decide_and, ← Bool.decide_or, ↓tq_n, ↓tq_e, ↓tq_r, ↓bq_n, ↓bq_e, ↓bq_r, ↓rq_n, ↓rq_r, ↓rq_e]
  exact ret_ok rfl
theorem any_iff (n : Nat) (p : Nat → Bool) : (List.range n).any p = true ↔ ∃ i, i < n ∧ p i = true := by simp
theorem r_coloring_Is (n : Int) (n1 : Bool) (e : List (Int × Int)) (u1 : Tail) (n2 : Bool) (c : List Int) (u2 : Tail) (h : AH) : RCall Try.prog n_coloring_IsW [I n, .sl n1 e.length (prs e) u1, .sl n2 c.length (i64s c) u2] h (.bool (decide (isC n e c))) := by
  refine RCall.of hm cF_coloring_IsW (by simp [g_coloring_IsW]) fun hw h' hl => ?_
  simp only [F_coloring_IsW, g_coloring_IsW, go_sem, reduceIte, Nat.reduceEqDiff, Nat.reduceAdd, Nat.reduceMul, Nat.reduceSub, reduceCtorEq, Nat.reduceLeDiff, Nat.reduceLT, Int.reduceLT, Int.reduceLE, Int.reduceToNat, Int.reduceAdd, Int.reduceSub, Int.reduceNeg, Int.reduceMul, Int.reduceEq, ← Bool.decide_and, ← Bool.decide_or, ↓tq_n, ↓tq_e, ↓tq_r, ↓bq_n, ↓bq_e, ↓bq_r, ↓rq_n, ↓rq_r, ↓rq_e]
  refine CallG.mk (r_coloring_Valid n1 n e u1 _) ?_
  by_cases hv : Vd n e
  case neg =>
    rw [decide_eq_false hv]
    simp only [F_coloring_IsW, g_coloring_IsW, go_sem, reduceIte, Nat.reduceEqDiff, Nat.reduceAdd, Nat.reduceMul, Nat.reduceSub, reduceCtorEq, Nat.reduceLeDiff, Nat.reduceLT, Int.reduceLT, Int.reduceLE, Int.reduceToNat, Int.reduceAdd, Int.reduceSub, Int.reduceNeg, Int.reduceMul, Int.reduceEq, ← Bool.decide_and, ← Bool.decide_or, ↓tq_n, ↓tq_e, ↓tq_r, ↓bq_n, ↓bq_e, ↓bq_r, ↓rq_n, ↓rq_r, ↓rq_e]
    exact ret_ok (by rw [decide_eq_false (fun hh => hv hh.1)])
  rw [decide_eq_true hv]
  by_cases hl2 : (c.length : Int) = n
  case neg =>
    simp only [hl2, F_coloring_IsW, g_coloring_IsW, go_sem, reduceIte, Nat.reduceEqDiff, Nat.reduceAdd, Nat.reduceMul, Nat.reduceSub, reduceCtorEq, Nat.reduceLeDiff, Nat.reduceLT, Int.reduceLT, Int.reduceLE, Int.reduceToNat, Int.reduceAdd, Int.reduceSub, Int.reduceNeg, Int.reduceMul, Int.reduceEq, ← Bool.decide_and, ← Bool.decide_or, ↓tq_n, ↓tq_e, ↓tq_r, ↓bq_n, ↓bq_e, ↓bq_r, ↓rq_n, ↓rq_r, ↓rq_e]
    exact ret_ok (by rw [decide_eq_false (fun hh => hl2 hh.2.1)])
  have hl2' : decide ((c.length : Int) = n) = true := decide_eq_true hl2
  simp only [hl2', F_coloring_IsW, g_coloring_IsW, go_sem, reduceIte, Nat.reduceEqDiff, Nat.reduceAdd, Nat.reduceMul, Nat.reduceSub, reduceCtorEq, Nat.reduceLeDiff, Nat.reduceLT, Int.reduceLT, Int.reduceLE, Int.reduceToNat, Int.reduceAdd, Int.reduceSub, Int.reduceNeg, Int.reduceMul, Int.reduceEq, ← Bool.decide_and, ← Bool.decide_or, ↓tq_n, ↓tq_e, ↓tq_r, ↓bq_n, ↓bq_e, ↓bq_r, ↓rq_n, ↓rq_r, ↓rq_e]
  refine CallG.mk (r_slices_ContainsFunc_int n2 c u2 _ _ (fun i => decide (c.getD i 0 < 0)) _ (fun i hi => r_coloring_Is_1 _ _)) ?_
  by_cases hp : ∃ i, i < c.length ∧ c.getD i 0 < 0
  · have ha : ((List.range c.length).any fun i => decide (c.getD i 0 < 0)) = true := (any_iff _ _).2 (by obtain ⟨i, h1, h2⟩ := hp; exact ⟨i, h1, decide_eq_true h2⟩)
    rw [ha]
    simp only [F_coloring_IsW, g_coloring_IsW, go_sem, reduceIte, Nat.reduceEqDiff, Nat.reduceAdd, Nat.reduceMul, Nat.reduceSub, reduceCtorEq, Nat.reduceLeDiff, Nat.reduceLT, Int.reduceLT, Int.reduceLE, Int.reduceToNat, Int.reduceAdd, Int.reduceSub, Int.reduceNeg, Int.reduceMul, Int.reduceEq, ← Bool.decide_and, ← Bool.decide_or, ↓tq_n, ↓tq_e, ↓tq_r, ↓bq_n, ↓bq_e, ↓bq_r, ↓rq_n, ↓rq_r, ↓rq_e]
    exact ret_ok (by rw [decide_eq_false (fun hh => by obtain ⟨i, h1, h2⟩ := hp; have := hh.2.2.1 i h1; omega)])
  have ha : ((List.range c.length).any fun i => decide (c.getD i 0 < 0)) = false := Bool.eq_false_iff.2 fun hh => hp (by obtain ⟨i, h1, h2⟩ := (any_iff _ _).1 hh; exact ⟨i, h1, of_decide_eq_true h2⟩)
  rw [ha]
  simp only [F_coloring_IsW, g_coloring_IsW, go_sem, reduceIte, Nat.reduceEqDiff, Nat.reduceAdd, Nat.reduceMul, Nat.reduceSub, reduceCtorEq, Nat.reduceLeDiff, Nat.reduceLT, Int.reduceLT, Int.reduceLE, Int.reduceToNat, Int.reduceAdd, Int.reduceSub, Int.reduceNeg, Int.reduceMul, Int.reduceEq, ← Bool.decide_and, ← Bool.decide_or, ↓tq_n, ↓tq_e, ↓tq_r, ↓bq_n, ↓bq_e, ↓bq_r, ↓rq_n, ↓rq_r, ↓rq_e]
  refine CallG.mk (r_slices_ContainsFunc_Pair n1 e u1 _ _ (fun k => decide (c.getD (e.getD k (0, 0)).1.toNat 0 = c.getD (e.getD k (0, 0)).2.toNat 0)) _ (fun k hk => r_coloring_Is_2 _ _ c n2 u2 _ (by have := vd_at hv hk; omega) (by have := vd_at hv hk; omega))) ?_
  simp only [F_coloring_IsW, g_coloring_IsW, go_sem, reduceIte, Nat.reduceEqDiff, Nat.reduceAdd, Nat.reduceMul, Nat.reduceSub, reduceCtorEq, Nat.reduceLeDiff, Nat.reduceLT, Int.reduceLT, Int.reduceLE, Int.reduceToNat, Int.reduceAdd, Int.reduceSub, Int.reduceNeg, Int.reduceMul, Int.reduceEq, ← Bool.decide_and, ← Bool.decide_or, ↓tq_n, ↓tq_e, ↓tq_r, ↓bq_n, ↓bq_e, ↓bq_r, ↓rq_n, ↓rq_r, ↓rq_e]
  refine ret_ok ?_
  congr 1
  rw [Bool.eq_iff_iff]
  simp only [Bool.not_eq_true', Bool.eq_false_iff, ne_eq, any_iff, decide_eq_true_eq]
  constructor
  · intro hh
    refine ⟨hv, hl2, fun i hi => ?_, fun k hk hc => hh ⟨k, hk, hc⟩⟩
    have : ¬ c.getD i 0 < 0 := fun hc => hp ⟨i, hi, hc⟩
    omega
  · rintro hh ⟨k, hk, hc⟩
    exact hh.2.2.2 k hk hc
theorem r_ref_Is (n : Int) (n1 : Bool) (e : List (Int × Int)) (u1 : Tail) (n2 : Bool) (c : List Int) (u2 : Tail) (h : AH) : RCall Try.prog n_ref_IsW [I n, .sl n1 e.length (prs e) u1, .sl n2 c.length (i64s c) u2] h (.bool (decide (isC n e c))) := by
  refine RCall.of hm cF_ref_IsW (by simp [g_ref_IsW]) fun hw h' hl => ?_
  have hx := wf_len (hw _ (.tail _ (.head _)))
  simp only [F_ref_IsW, g_ref_IsW, go_sem, reduceIte, Nat.reduceEqDiff, Nat.reduceAdd, Nat.reduceMul, Nat.reduceSub, reduceCtorEq, Nat.reduceLeDiff, Nat.reduceLT, Int.reduceLT, Int.reduceLE, Int.reduceToNat, Int.reduceAdd, Int.reduceSub, Int.reduceNeg, Int.reduceMul, Int.reduceEq, ← Bool.decide_and, ← Bool.decide_or, ↓tq_n, ↓tq_e, ↓tq_r, ↓bq_n, ↓bq_e, ↓bq_r, ↓rq_n, ↓rq_r, ↓rq_e]
  refine CallG.mk (r_ref_Valid n1 n e u1 _) ?_
  by_cases hv : Vd n e
  case neg =>
    rw [decide_eq_false hv]
    simp only [F_ref_IsW, g_ref_IsW, go_sem, reduceIte, Nat.reduceEqDiff, Nat.reduceAdd, Nat.reduceMul, Nat.reduceSub, reduceCtorEq, Nat.reduceLeDiff, Nat.reduceLT, Int.reduceLT, Int.reduceLE, Int.reduceToNat, Int.reduceAdd, Int.reduceSub, Int.reduceNeg, Int.reduceMul, Int.reduceEq, ← Bool.decide_and, ← Bool.decide_or, ↓tq_n, ↓tq_e, ↓tq_r, ↓bq_n, ↓bq_e, ↓bq_r, ↓rq_n, ↓rq_r, ↓rq_e]
    exact ret_ok (by rw [decide_eq_false (fun hh => hv hh.1)])
  rw [decide_eq_true hv]
  by_cases hl2 : (c.length : Int) = n
  case neg =>
    simp only [hl2, F_ref_IsW, g_ref_IsW, go_sem, reduceIte, Nat.reduceEqDiff, Nat.reduceAdd, Nat.reduceMul, Nat.reduceSub, reduceCtorEq, Nat.reduceLeDiff, Nat.reduceLT, Int.reduceLT, Int.reduceLE, Int.reduceToNat, Int.reduceAdd, Int.reduceSub, Int.reduceNeg, Int.reduceMul, Int.reduceEq, ← Bool.decide_and, ← Bool.decide_or, ↓tq_n, ↓tq_e, ↓tq_r, ↓bq_n, ↓bq_e, ↓bq_r, ↓rq_n, ↓rq_r, ↓rq_e]
    exact ret_ok (by rw [decide_eq_false (fun hh => hl2 hh.2.1)])
  subst hl2
  simp only [F_ref_IsW, g_ref_IsW, go_sem, reduceIte, Nat.reduceEqDiff, Nat.reduceAdd, Nat.reduceMul, Nat.reduceSub, reduceCtorEq, Nat.reduceLeDiff, Nat.reduceLT, Int.reduceLT, Int.reduceLE, Int.reduceToNat, Int.reduceAdd, Int.reduceSub, Int.reduceNeg, Int.reduceMul, Int.reduceEq, ← Bool.decide_and, ← Bool.decide_or, ↓tq_n, ↓tq_e, ↓tq_r, ↓bq_n, ↓bq_e, ↓bq_r, ↓rq_n, ↓rq_r, ↓rq_e]
  refine awp_loop (fun i : Nat => [(0, I c.length), (1, .sl n1 e.length (prs e) u1), (2, .sl n2 c.length (i64s c) u2), (7, I i)]) (fun _ => h') (fun i => i ≤ c.length ∧ ∀ j, j < i → 0 ≤ c.getD j 0) (fun i => c.length - i) 0 ⟨Nat.zero_le _, fun j hj => absurd hj (Nat.not_lt_zero _)⟩ (GStep.forget (by repeat' first | exact EnvLe.nil _ | refine EnvLe.cons (AV.le.of_eq rfl) ?_ | refine EnvLe.cons (AV.le.undef _) ?_ | refine EnvLe.cons AV.le.unk ?_) (by repeat' first | exact AH.le.refl _ | assumption | (refine AH.le_put ?_ (by first | assumption | exact (AH.blk_put_ne _ _ (by assumption)).trans (by assumption) | exact AH.none_put (by assumption) | exact AH.none_put (AH.none_put (by assumption)) | (simp only [AH.blk_setTok, AH.tok_put] at *; first | assumption | exact AH.none_put (by assumption)))) | (refine AH.le_setTok ?_ (by first | assumption | exact (AH.blk_put_ne _ _ (by assumption)).trans (by assumption) | exact AH.none_put (by assumption) | exact AH.none_put (AH.none_put (by assumption)) | (simp only [AH.blk_setTok, AH.tok_put] at *; first | assumption | exact AH.none_put (by assumption)))) | (refine AH.le_putM ?_ (by first | assumption | exact (AH.mp_putM_ne _ _ (by assumption)).trans (by assumption) | (simp only [AH.mp_put, AH.mp_setTok] at *; assumption))))) fun i hi => .of_vg hm ?_
  obtain ⟨h1, h2⟩ := hi
  by_cases h3 : i < c.length
  · have hc : (i : Int) < (c.length : Int) := by omega
    simp only [hc, i64s_drop h3, F_ref_IsW, g_ref_IsW, go_sem, reduceIte, Nat.reduceEqDiff, Nat.reduceAdd, Nat.reduceMul, Nat.reduceSub, reduceCtorEq, Nat.reduceLeDiff, Nat.reduceLT, Int.reduceLT, Int.reduceLE, Int.reduceToNat, Int.reduceAdd, Int.reduceSub, Int.reduceNeg, Int.reduceMul, Int.reduceEq, ← Bool.decide_and, ← Bool.decide_or, ↓tq_n, ↓tq_e, ↓tq_r, ↓bq_n, ↓bq_e, ↓bq_r, ↓rq_n, ↓rq_r, ↓rq_e]
    refine ⟨fun h4 => ?_, fun h4 => ⟨by have := hv.2.1; rw [inR64]; omega, i + 1, ⟨by omega, all_succ h2 (by omega)⟩, by omega, (GStep.forget (by repeat' first | exact EnvLe.nil _ | refine EnvLe.cons (AV.le.of_eq rfl) ?_ | refine EnvLe.cons (AV.le.undef _) ?_ | refine EnvLe.cons AV.le.unk ?_) (by repeat' first | exact AH.le.refl _ | assumption | (refine AH.le_put ?_ (by first | assumption | exact (AH.blk_put_ne _ _ (by assumption)).trans (by assumption) | exact AH.none_put (by assumption) | exact AH.none_put (AH.none_put (by assumption)) | (simp only [AH.blk_setTok, AH.tok_put] at *; first | assumption | exact AH.none_put (by assumption)))) | (refine AH.le_setTok ?_ (by first | assumption | exact (AH.blk_put_ne _ _ (by assumption)).trans (by assumption) | exact AH.none_put (by assumption) | exact AH.none_put (AH.none_put (by assumption)) | (simp only [AH.blk_setTok, AH.tok_put] at *; first | assumption | exact AH.none_put (by assumption)))) | (refine AH.le_putM ?_ (by first | assumption | exact (AH.mp_putM_ne _ _ (by assumption)).trans (by assumption) | (simp only [AH.mp_put, AH.mp_setTok] at *; assumption)))))⟩⟩
    exact ret_ok (by rw [decide_eq_false (fun hh => by have := hh.2.2.1 i h3; omega)])
  have h3 : i = c.length := by omega
  subst h3
  simp only [F_ref_IsW, g_ref_IsW, go_sem, reduceIte, Nat.reduceEqDiff, Nat.reduceAdd, Nat.reduceMul, Nat.reduceSub, reduceCtorEq, Nat.reduceLeDiff, Nat.reduceLT, Int.reduceLT, Int.reduceLE, Int.reduceToNat, Int.reduceAdd, Int.reduceSub, Int.reduceNeg, Int.reduceMul, Int.reduceEq, ← Bool.decide_and, ← Bool.decide_or, ↓tq_n, ↓tq_e, ↓tq_r, ↓bq_n, ↓bq_e, ↓bq_r, ↓rq_n, ↓rq_r, ↓rq_e]
  refine awp_loop (fun k : Nat => [(0, I c.length), (1, .sl n1 e.length (prs e) u1), (2, .sl n2 c.length (i64s c) u2), (8, I k)]) (fun _ => h') (fun k => k ≤ e.length ∧ ∀ j, j < k → c.getD (e.getD j (0, 0)).1.toNat 0 ≠ c.getD (e.getD j (0, 0)).2.toNat 0) (fun k => e.length - k) 0 ⟨Nat.zero_le _, fun j hj => absurd hj (Nat.not_lt_zero _)⟩ (GStep.forget (by repeat' first | exact EnvLe.nil _ | refine EnvLe.cons (AV.le.of_eq rfl) ?_ | refine EnvLe.cons (AV.le.undef _) ?_ | refine EnvLe.cons AV.le.unk ?_) (by repeat' first | exact AH.le.refl _ | assumption | (refine AH.le_put ?_ (by first | assumption | exact (AH.blk_put_ne _ _ (by assumption)).trans (by assumption) | exact AH.none_put (by assumption) | exact AH.none_put (AH.none_put (by assumption)) | (simp only [AH.blk_setTok, AH.tok_put] at *; first | assumption | exact AH.none_put (by assumption)))) | (refine AH.le_setTok ?_ (by first | assumption | exact (AH.blk_put_ne _ _ (by assumption)).trans (by assumption) | exact AH.none_put (by assumption) | exact AH.none_put (AH.none_put (by assumption)) | (simp only [AH.blk_setTok, AH.tok_put] at *; first | assumption | exact AH.none_put (by assumption)))) | (refine AH.le_putM ?_ (by first | assumption | exact (AH.mp_putM_ne _ _ (by assumption)).trans (by assumption) | (simp only [AH.mp_put, AH.mp_setTok] at *; assumption))))) fun k hk => .of_vg hm ?_
  obtain ⟨k1, k2⟩ := hk
  by_cases k3 : k < e.length
  · have hc : (k : Int) < (e.length : Int) := by omega
    have hp := vd_at hv k3
    have q1 : (e.getD k (0, 0)).1 < (c.length : Int) := by omega
    have q2 : 0 ≤ (e.getD k (0, 0)).2 := by omega
    have d1 : (e.getD k (0, 0)).1.toNat < c.length := by omega
    have d2 : (e.getD k (0, 0)).2.toNat < c.length := by omega
    simp only [hc, prs_drop k3, i64s_drop d1, i64s_drop d2, hp.1, hp.2.2, q1, q2, F_ref_IsW, g_ref_IsW, go_sem, reduceIte, Nat.reduceEqDiff, Nat.reduceAdd, Nat.reduceMul, Nat.reduceSub, reduceCtorEq, Nat.reduceLeDiff, Nat.reduceLT, Int.reduceLT, Int.reduceLE, Int.reduceToNat, Int.reduceAdd, Int.reduceSub, Int.reduceNeg, Int.reduceMul, Int.reduceEq, ← Bool.decide_and, ← Bool.decide_or, ↓tq_n, ↓tq_e, ↓tq_r, ↓bq_n, ↓bq_e, ↓bq_r, ↓rq_n, ↓rq_r, ↓rq_e]
    refine ⟨fun h4 => ?_, fun h4 => ⟨by rw [inR64]; omega, k + 1, ⟨by omega, all_succ k2 h4⟩, by omega, (GStep.forget (by repeat' first | exact EnvLe.nil _ | refine EnvLe.cons (AV.le.of_eq rfl) ?_ | refine EnvLe.cons (AV.le.undef _) ?_ | refine EnvLe.cons AV.le.unk ?_) (by repeat' first | exact AH.le.refl _ | assumption | (refine AH.le_put ?_ (by first | assumption | exact (AH.blk_put_ne _ _ (by assumption)).trans (by assumption) | exact AH.none_put (by assumption) | exact AH.none_put (AH.none_put (by assumption)) | (simp only [AH.blk_setTok, AH.tok_put] at *; first | assumption | exact AH.none_put (by assumption)))) | (refine AH.le_setTok ?_ (by first | assumption | exact (AH.blk_put_ne _ _ (by assumption)).trans (by assumption) | exact AH.none_put (by assumption) | exact AH.none_put (AH.none_put (by assumption)) | (simp only [AH.blk_setTok, AH.tok_put] at *; first | assumption | exact AH.none_put (by assumption)))) | (refine AH.le_putM ?_ (by first | assumption | exact (AH.mp_putM_ne _ _ (by assumption)).trans (by assumption) | (simp only [AH.mp_put, AH.mp_setTok] at *; assumption)))))⟩⟩
    exact ret_ok (by rw [decide_eq_false (fun hh => hh.2.2.2 k k3 h4)])
  have k3 : k = e.length := by omega
  subst k3
  simp only [F_ref_IsW, g_ref_IsW, go_sem, reduceIte, Nat.reduceEqDiff, Nat.reduceAdd, Nat.reduceMul, Nat.reduceSub, reduceCtorEq, Nat.reduceLeDiff, Nat.reduceLT, Int.reduceLT, Int.reduceLE, Int.reduceToNat, Int.reduceAdd, Int.reduceSub, Int.reduceNeg, Int.reduceMul, Int.reduceEq, ← Bool.decide_and, ← Bool.decide_or, ↓tq_n, ↓tq_e, ↓tq_r, ↓bq_n, ↓bq_e, ↓bq_r, ↓rq_n, ↓rq_r, ↓rq_e]
  exact ret_ok (by rw [decide_eq_true ⟨hv, rfl, h2, k2⟩])
end Go.Proofs.Yticiimmfjdkimaa
