/- Calls of functions of this seat's program: the order of the reference; permutations. No condition. -/
import Derived.Test.YtnekkkjedmlloaaH6
namespace Go.Proofs.Ytnekkkjedmlloaa
open Go Go.Abs
set_option linter.unusedSimpArgs false
set_option linter.unusedVariables false
set_option maxRecDepth 20000

set_option maxHeartbeats 1000000 in
theorem r_ref_Order (n1 : Bool) (l : List Hd) (u1 : Tail) (n2 : Bool) (t : List (Int × Int)) (u2 : Tail) (h : AH) :
    RCall Try.prog n_ref_Order [.sl n1 l.length (hds l) u1, .sl n2 t.length (prs t) u2] h (orderV l t) := by
  refine RCall.of hm cF_ref_Order (by simp [g_ref_Order]) fun hw h' hl => ?_
  simp only [F_ref_Order, g_ref_Order, go_sem, reduceIte, Nat.reduceEqDiff, Nat.reduceAdd, Nat.reduceMul, Nat.reduceSub, reduceCtorEq, Nat.reduceLeDiff, Nat.reduceLT, Int.reduceLT, Int.reduceLE, Int.reduceToNat, Int.reduceAdd, Int.reduceSub, Int.reduceNeg, Int.reduceMul, Int.reduceEq, ← Bool.decide_and, ← Bool.decide_or, ↓tq_n, ↓tq_e, ↓tq_r, ↓bq_n, ↓bq_e, ↓bq_r, ↓rq_n, ↓rq_r, ↓rq_e]
  refine CallG.mk (r_ref_years n1 l u1 n2 t u2 _) ?_
  unfold yearsV orderV
  by_cases h1 : yq l t = 0
  case neg =>
    rw [if_neg h1]
    simp only [h1, F_ref_Order, g_ref_Order, go_sem, reduceIte, Nat.reduceEqDiff, Nat.reduceAdd, Nat.reduceMul, Nat.reduceSub, reduceCtorEq, Nat.reduceLeDiff, Nat.reduceLT, Int.reduceLT, Int.reduceLE, Int.reduceToNat, Int.reduceAdd, Int.reduceSub, Int.reduceNeg, Int.reduceMul, Int.reduceEq, ← Bool.decide_and, ← Bool.decide_or, ↓tq_n, ↓tq_e, ↓tq_r, ↓bq_n, ↓bq_e, ↓bq_r, ↓rq_n, ↓rq_r, ↓rq_e]
    exact ret_ok (by first | rfl | simp [h1])
  obtain ⟨yl1, hc0, _⟩ := ys_len h1
  obtain ⟨l8, hvl⟩ := chk_vls hc0
  rw [if_pos h1]
  simp only [F_ref_Order, g_ref_Order, go_sem, reduceIte, Nat.reduceEqDiff, Nat.reduceAdd, Nat.reduceMul, Nat.reduceSub, reduceCtorEq, Nat.reduceLeDiff, Nat.reduceLT, Int.reduceLT, Int.reduceLE, Int.reduceToNat, Int.reduceAdd, Int.reduceSub, Int.reduceNeg, Int.reduceMul, Int.reduceEq, ← Bool.decide_and, ← Bool.decide_or, ↓tq_n, ↓tq_e, ↓tq_r, ↓bq_n, ↓bq_e, ↓bq_r, ↓rq_n, ↓rq_r, ↓rq_e]
  obtain ⟨y, hy⟩ : ∃ y, y = ys l t := ⟨_, rfl⟩
  rw [← hy] at yl1 ⊢
  refine awp_loop (fun i : Nat => [(0, .sl n1 l.length (hds l) u1), (6, gl (i64s y) l.length .unk), (8, gl (i64s (nats (ordL y i))) i .unk), (9, I i)]) (fun _ => h') (fun i => i ≤ l.length) (fun i => l.length - i) 0 (Nat.zero_le _) (GStep.forget (by repeat' first | exact EnvLe.nil _ | refine EnvLe.cons (AV.le.of_eq rfl) ?_ | refine EnvLe.cons (AV.le.undef _) ?_ | refine EnvLe.cons AV.le.unk ?_) (by repeat' first | exact AH.le.refl _ | assumption | (refine AH.le_put ?_ (by first | assumption | exact (AH.blk_put_ne _ _ (by assumption)).trans (by assumption) | exact AH.none_put (by assumption) | exact AH.none_put (AH.none_put (by assumption)) | (simp only [AH.blk_setTok, AH.tok_put] at *; first | assumption | exact AH.none_put (by assumption)))) | (refine AH.le_setTok ?_ (by first | assumption | exact (AH.blk_put_ne _ _ (by assumption)).trans (by assumption) | exact AH.none_put (by assumption) | exact AH.none_put (AH.none_put (by assumption)) | (simp only [AH.blk_setTok, AH.tok_put] at *; first | assumption | exact AH.none_put (by assumption)))) | (refine AH.le_putM ?_ (by first | assumption | exact (AH.mp_putM_ne _ _ (by assumption)).trans (by assumption) | (simp only [AH.mp_put, AH.mp_setTok] at *; assumption))))) fun i hi => .of_vg hm ?_
  by_cases h5 : i < l.length
  case neg =>
    have h5 : i = l.length := by omega
    subst h5
    simp only [F_ref_Order, g_ref_Order, go_sem, reduceIte, Nat.reduceEqDiff, Nat.reduceAdd, Nat.reduceMul, Nat.reduceSub, reduceCtorEq, Nat.reduceLeDiff, Nat.reduceLT, Int.reduceLT, Int.reduceLE, Int.reduceToNat, Int.reduceAdd, Int.reduceSub, Int.reduceNeg, Int.reduceMul, Int.reduceEq, ← Bool.decide_and, ← Bool.decide_or, ↓tq_n, ↓tq_e, ↓tq_r, ↓bq_n, ↓bq_e, ↓bq_r, ↓rq_n, ↓rq_r, ↓rq_e]
    exact ret_ok (by rw [if_pos h1])
  have hc : (i : Int) < (l.length : Int) := by omega
  have hol := ordL_len y i
  simp only [hc, F_ref_Order, g_ref_Order, go_sem, reduceIte, Nat.reduceEqDiff, Nat.reduceAdd, Nat.reduceMul, Nat.reduceSub, reduceCtorEq, Nat.reduceLeDiff, Nat.reduceLT, Int.reduceLT, Int.reduceLE, Int.reduceToNat, Int.reduceAdd, Int.reduceSub, Int.reduceNeg, Int.reduceMul, Int.reduceEq, ← Bool.decide_and, ← Bool.decide_or, ↓tq_n, ↓tq_e, ↓tq_r, ↓bq_n, ↓bq_e, ↓bq_r, ↓rq_n, ↓rq_r, ↓rq_e]
  refine awp_loop (fun k : Nat => [(0, .sl n1 l.length (hds l) u1), (6, gl (i64s y) l.length .unk), (8, gl (i64s (nats (ordL y i))) i .unk), (9, I i), (10, I k)]) (fun _ => h') (fun k => k ≤ i ∧ cut y (y.getD i 0) (ordL y i) i = cut y (y.getD i 0) (ordL y i) k) (fun k => k) i ⟨Nat.le_refl _, rfl⟩ (GStep.forget (by repeat' first | exact EnvLe.nil _ | refine EnvLe.cons (AV.le.of_eq rfl) ?_ | refine EnvLe.cons (AV.le.undef _) ?_ | refine EnvLe.cons AV.le.unk ?_) (by repeat' first | exact AH.le.refl _ | assumption | (refine AH.le_put ?_ (by first | assumption | exact (AH.blk_put_ne _ _ (by assumption)).trans (by assumption) | exact AH.none_put (by assumption) | exact AH.none_put (AH.none_put (by assumption)) | (simp only [AH.blk_setTok, AH.tok_put] at *; first | assumption | exact AH.none_put (by assumption)))) | (refine AH.le_setTok ?_ (by first | assumption | exact (AH.blk_put_ne _ _ (by assumption)).trans (by assumption) | exact AH.none_put (by assumption) | exact AH.none_put (AH.none_put (by assumption)) | (simp only [AH.blk_setTok, AH.tok_put] at *; first | assumption | exact AH.none_put (by assumption)))) | (refine AH.le_putM ?_ (by first | assumption | exact (AH.mp_putM_ne _ _ (by assumption)).trans (by assumption) | (simp only [AH.mp_put, AH.mp_setTok] at *; assumption))))) fun k hk => .of_vg hm ?_
  obtain ⟨k1, k2⟩ := hk
  -- what comes behind the inner loop
  have hnext : ∀ k, k ≤ i → cut y (y.getD i 0) (ordL y i) i = k → i64s (nats (ordL y (i + 1))) = List.take k (i64s (nats (ordL y i))) ++ (I i :: List.drop k (i64s (nats (ordL y i)))) := fun k hk hc => by
    have : ordL y (i + 1) = (ordL y i).take k ++ i :: (ordL y i).drop k := by rw [ordL]; unfold ins; rw [hol, hc]
    rw [this, nats_append, i64s_append, nats_take, i64s_take]
    have e : nats (i :: (ordL y i).drop k) = (i : Int) :: (nats (ordL y i)).drop k := by rw [← nats_drop]; rfl
    rw [e]
    show _ ++ (I i :: i64s ((nats (ordL y i)).drop k)) = _
    rw [i64s_dropn]
  have hlen : (i64s (nats (ordL y i))).length = i := by rw [i64s_len, nats_len, hol]
  cases k with
  | zero =>
    have hc0 : ¬ (0 : Int) < ((0 : Nat) : Int) := by omega
    have z0 : ((0 : Nat) : Int).toNat = 0 := rfl
    have hn0 := hnext 0 (by omega) (by rw [k2]; rfl)
    simp only [hc0, z0, gl, hlen, Nat.sub_zero, F_ref_Order, g_ref_Order, go_sem, reduceIte, Nat.reduceEqDiff, Nat.reduceAdd, Nat.reduceMul, Nat.reduceSub, reduceCtorEq, Nat.reduceLeDiff, Nat.reduceLT, Int.reduceLT, Int.reduceLE, Int.reduceToNat, Int.reduceAdd, Int.reduceSub, Int.reduceNeg, Int.reduceMul, Int.reduceEq, ← Bool.decide_and, ← Bool.decide_or, ↓tq_n, ↓tq_e, ↓tq_r, ↓bq_n, ↓bq_e, ↓bq_r, ↓rq_n, ↓rq_r, ↓rq_e]
    refine ⟨Nat.zero_le _, TokG.mk fun tk ht => ?_⟩
    simp only [hlen, Nat.sub_zero, F_ref_Order, g_ref_Order, go_sem, reduceIte, Nat.reduceEqDiff, Nat.reduceAdd, Nat.reduceMul, Nat.reduceSub, reduceCtorEq, Nat.reduceLeDiff, Nat.reduceLT, Int.reduceLT, Int.reduceLE, Int.reduceToNat, Int.reduceAdd, Int.reduceSub, Int.reduceNeg, Int.reduceMul, Int.reduceEq, ← Bool.decide_and, ← Bool.decide_or, ↓tq_n, ↓tq_e, ↓tq_r, ↓bq_n, ↓bq_e, ↓bq_r, ↓rq_n, ↓rq_r, ↓rq_e]
    have ht0 : List.take i (i64s (nats (ordL y i))) = i64s (nats (ordL y i)) := List.take_of_length_le (by omega)
    rw [ht0]
    refine ⟨by omega, by omega, by omega, by omega, by rw [inR64]; omega, i + 1, by omega, by omega, ?_⟩
    rw [show gl (i64s (nats (ordL y (i + 1)))) (i + 1) .unk = .sl false (i + 1) (i64s (nats (ordL y (i + 1)))) .unk from gl_pos (by omega), hn0]
    simp only [List.take_zero, List.nil_append, List.drop_zero, ht0, Nat.add_comm 1 i, Bool.false_and, List.singleton_append, Nat.zero_add]
    exact (GStep.forget (by repeat' first | exact EnvLe.nil _ | refine EnvLe.cons (AV.le.of_eq rfl) ?_ | refine EnvLe.cons (AV.le.undef _) ?_ | refine EnvLe.cons AV.le.unk ?_) (by repeat' first | exact AH.le.refl _ | assumption | (refine AH.le_put ?_ (by first | assumption | exact (AH.blk_put_ne _ _ (by assumption)).trans (by assumption) | exact AH.none_put (by assumption) | exact AH.none_put (AH.none_put (by assumption)) | (simp only [AH.blk_setTok, AH.tok_put] at *; first | assumption | exact AH.none_put (by assumption)))) | (refine AH.le_setTok ?_ (by first | assumption | exact (AH.blk_put_ne _ _ (by assumption)).trans (by assumption) | exact AH.none_put (by assumption) | exact AH.none_put (AH.none_put (by assumption)) | (simp only [AH.blk_setTok, AH.tok_put] at *; first | assumption | exact AH.none_put (by assumption)))) | (refine AH.le_putM ?_ (by first | assumption | exact (AH.mp_putM_ne _ _ (by assumption)).trans (by assumption) | (simp only [AH.mp_put, AH.mp_setTok] at *; assumption)))))
  | succ k =>
    have hc0 : (0 : Int) < ((k + 1 : Nat) : Int) := by omega
    have hkm : ((k + 1 : Nat) : Int) - 1 = (k : Int) := by omega
    have hik : InR .i64 (k : Int) := by rw [inR64]; omega
    have hck : (k : Int) < (i : Int) := by omega
    obtain ⟨o, ho⟩ : ∃ o, o = (ordL y i).getD k 0 := ⟨_, rfl⟩
    have hlt : o < i := by
      have : (ordL y i).getD k 0 ∈ ordL y i := mem_getD (by omega)
      rw [← ho] at this
      exact ordL_mem.1 this
    have hd : (i64s (nats (ordL y i))).drop k = I o :: (i64s (nats (ordL y i))).drop (k + 1) := by
      rw [i64s_drop (by rw [nats_len]; omega), nats_get (by omega), ← ho]
    have hco : (o : Int) < (l.length : Int) := by omega
    have hcut : cut y (y.getD i 0) (ordL y i) (k + 1) = if y.getD i 0 < y.getD o 0 then cut y (y.getD i 0) (ordL y i) k else k + 1 := by rw [cut, ← ho]
    have hn0 := hnext (k + 1)
    have hkt : ((k + 1 : Nat) : Int).toNat = k + 1 := by omega
    have hk0 : (0 : Int) ≤ ((k + 1 : Nat) : Int) := by omega
    by_cases h4 : y.getD i 0 < y.getD o 0
    · rw [if_pos h4] at hcut
      simp only [hc0, hkm, hik, hck, hd, hco, hc, i64s_drop (xs := y) (i := o) (by omega), i64s_drop (xs := y) (i := i) (by omega), h4, F_ref_Order, g_ref_Order, go_sem, reduceIte, Nat.reduceEqDiff, Nat.reduceAdd, Nat.reduceMul, Nat.reduceSub, reduceCtorEq, Nat.reduceLeDiff, Nat.reduceLT, Int.reduceLT, Int.reduceLE, Int.reduceToNat, Int.reduceAdd, Int.reduceSub, Int.reduceNeg, Int.reduceMul, Int.reduceEq, ← Bool.decide_and, ← Bool.decide_or, ↓tq_n, ↓tq_e, ↓tq_r, ↓bq_n, ↓bq_e, ↓bq_r, ↓rq_n, ↓rq_r, ↓rq_e]
      exact ⟨k, ⟨by omega, by rw [k2, hcut]⟩, by omega, (GStep.forget (by repeat' first | exact EnvLe.nil _ | refine EnvLe.cons (AV.le.of_eq rfl) ?_ | refine EnvLe.cons (AV.le.undef _) ?_ | refine EnvLe.cons AV.le.unk ?_) (by repeat' first | exact AH.le.refl _ | assumption | (refine AH.le_put ?_ (by first | assumption | exact (AH.blk_put_ne _ _ (by assumption)).trans (by assumption) | exact AH.none_put (by assumption) | exact AH.none_put (AH.none_put (by assumption)) | (simp only [AH.blk_setTok, AH.tok_put] at *; first | assumption | exact AH.none_put (by assumption)))) | (refine AH.le_setTok ?_ (by first | assumption | exact (AH.blk_put_ne _ _ (by assumption)).trans (by assumption) | exact AH.none_put (by assumption) | exact AH.none_put (AH.none_put (by assumption)) | (simp only [AH.blk_setTok, AH.tok_put] at *; first | assumption | exact AH.none_put (by assumption)))) | (refine AH.le_putM ?_ (by first | assumption | exact (AH.mp_putM_ne _ _ (by assumption)).trans (by assumption) | (simp only [AH.mp_put, AH.mp_setTok] at *; assumption)))))⟩
    · rw [if_neg h4] at hcut
      have hn0 := hnext (k + 1) (by omega) (by rw [k2, hcut])
      have hlt1 : (List.take (k + 1) (i64s (nats (ordL y i)))).length = k + 1 := by rw [List.length_take, hlen]; omega
      have hlt2 : (List.take (i - (k + 1)) (List.drop (k + 1) (i64s (nats (ordL y i))))).length = i - (k + 1) := by rw [List.length_take, List.length_drop, hlen]; omega
      simp only [hc0, hkm, hik, hck, hd, hco, hc, i64s_drop (xs := y) (i := o) (by omega), i64s_drop (xs := y) (i := i) (by omega), h4, gl, hkt, hk0, hlt1, Nat.sub_zero, F_ref_Order, g_ref_Order, go_sem, reduceIte, Nat.reduceEqDiff, Nat.reduceAdd, Nat.reduceMul, Nat.reduceSub, reduceCtorEq, Nat.reduceLeDiff, Nat.reduceLT, Int.reduceLT, Int.reduceLE, Int.reduceToNat, Int.reduceAdd, Int.reduceSub, Int.reduceNeg, Int.reduceMul, Int.reduceEq, ← Bool.decide_and, ← Bool.decide_or, ↓tq_n, ↓tq_e, ↓tq_r, ↓bq_n, ↓bq_e, ↓bq_r, ↓rq_n, ↓rq_r, ↓rq_e]
      refine ⟨by omega, by omega, by omega, TokG.mk fun tk ht => ?_⟩
      simp only [hlt1, hlt2, hkt, hk0, F_ref_Order, g_ref_Order, go_sem, reduceIte, Nat.reduceEqDiff, Nat.reduceAdd, Nat.reduceMul, Nat.reduceSub, reduceCtorEq, Nat.reduceLeDiff, Nat.reduceLT, Int.reduceLT, Int.reduceLE, Int.reduceToNat, Int.reduceAdd, Int.reduceSub, Int.reduceNeg, Int.reduceMul, Int.reduceEq, ← Bool.decide_and, ← Bool.decide_or, ↓tq_n, ↓tq_e, ↓tq_r, ↓bq_n, ↓bq_e, ↓bq_r, ↓rq_n, ↓rq_r, ↓rq_e]
      have ht' : List.take (i - (k + 1)) (List.drop (k + 1) (i64s (nats (ordL y i)))) = List.drop (k + 1) (i64s (nats (ordL y i))) := List.take_of_length_le (by rw [List.length_drop, hlen]; omega)
      refine ⟨by omega, by omega, by omega, by simp [hlt1], by omega, by omega, by rw [inR64]; omega, i + 1, by omega, by omega, ?_⟩
      rw [show gl (i64s (nats (ordL y (i + 1)))) (i + 1) .unk = .sl false (i + 1) (i64s (nats (ordL y (i + 1)))) .unk from gl_pos (by omega), hn0, show k + 1 + 1 + (i - (k + 1)) = i + 1 by omega]
      simp only [ht', Bool.false_and, List.append_assoc, List.singleton_append]
      exact (GStep.forget (by repeat' first | exact EnvLe.nil _ | refine EnvLe.cons (AV.le.of_eq rfl) ?_ | refine EnvLe.cons (AV.le.undef _) ?_ | refine EnvLe.cons AV.le.unk ?_) (by repeat' first | exact AH.le.refl _ | assumption | (refine AH.le_put ?_ (by first | assumption | exact (AH.blk_put_ne _ _ (by assumption)).trans (by assumption) | exact AH.none_put (by assumption) | exact AH.none_put (AH.none_put (by assumption)) | (simp only [AH.blk_setTok, AH.tok_put] at *; first | assumption | exact AH.none_put (by assumption)))) | (refine AH.le_setTok ?_ (by first | assumption | exact (AH.blk_put_ne _ _ (by assumption)).trans (by assumption) | exact AH.none_put (by assumption) | exact AH.none_put (AH.none_put (by assumption)) | (simp only [AH.blk_setTok, AH.tok_put] at *; first | assumption | exact AH.none_put (by assumption)))) | (refine AH.le_putM ?_ (by first | assumption | exact (AH.mp_putM_ne _ _ (by assumption)).trans (by assumption) | (simp only [AH.mp_put, AH.mp_setTok] at *; assumption)))))

/-- Each number below n once. -/
def Prm (l : List Int) (n : Nat) : Prop := l.length = n ∧ ∀ i, i < n → (0 ≤ l.getD i 0 ∧ l.getD i 0 < n) ∧ ∀ k, k < i → l.getD i 0 ≠ l.getD k 0
instance (l : List Int) (n : Nat) : Decidable (Prm l n) := by unfold Prm; infer_instance
theorem r_base_Order (nl : Bool) (l : List Int) (tl : Tail) (n : Nat) (h : AH) : RCall Try.prog n_base_Order [.sl nl l.length (i64s l) tl, I n] h (.bool (decide (Prm l n))) := by
  refine RCall.of hm cF_base_Order (by simp [g_base_Order]) fun hw h' hl => ?_
  have hx := wf_len (hw _ (.head _))
  simp only [F_base_Order, g_base_Order, go_sem, reduceIte, Nat.reduceEqDiff, Nat.reduceAdd, Nat.reduceMul, Nat.reduceSub, reduceCtorEq, Nat.reduceLeDiff, Nat.reduceLT, Int.reduceLT, Int.reduceLE, Int.reduceToNat, Int.reduceAdd, Int.reduceSub, Int.reduceNeg, Int.reduceMul, Int.reduceEq, ← Bool.decide_and, ← Bool.decide_or, ↓tq_n, ↓tq_e, ↓tq_r, ↓bq_n, ↓bq_e, ↓bq_r, ↓rq_n, ↓rq_r, ↓rq_e]
  refine ⟨fun h0 => ?_, fun h0 => ?_⟩
  · have : ¬ Prm l n := fun hp => by have := hp.1; omega
    exact ret_ok (by simp [this])
  have hln : l.length = n := by omega
  have no : ∀ i, i < n → ¬ ((0 ≤ l.getD i 0 ∧ l.getD i 0 < n) ∧ ∀ k, k < i → l.getD i 0 ≠ l.getD k 0) → decide (Prm l n) = false := fun i hi hn => decide_eq_false fun hp => hn (hp.2 i hi)
  refine awp_loop (fun i : Nat => [(0, .sl nl l.length (i64s l) tl), (1, I n), (5, I i)]) (fun _ => h') (fun i => i ≤ n ∧ ∀ j, j < i → (0 ≤ l.getD j 0 ∧ l.getD j 0 < n) ∧ ∀ k, k < j → l.getD j 0 ≠ l.getD k 0) (fun i => n - i) 0 ⟨Nat.zero_le _, fun j hj => absurd hj (Nat.not_lt_zero _)⟩ (GStep.forget (by repeat' first | exact EnvLe.nil _ | refine EnvLe.cons (AV.le.of_eq rfl) ?_ | refine EnvLe.cons (AV.le.undef _) ?_ | refine EnvLe.cons AV.le.unk ?_) (by repeat' first | exact AH.le.refl _ | assumption | (refine AH.le_put ?_ (by first | assumption | exact (AH.blk_put_ne _ _ (by assumption)).trans (by assumption) | exact AH.none_put (by assumption) | exact AH.none_put (AH.none_put (by assumption)) | (simp only [AH.blk_setTok, AH.tok_put] at *; first | assumption | exact AH.none_put (by assumption)))) | (refine AH.le_setTok ?_ (by first | assumption | exact (AH.blk_put_ne _ _ (by assumption)).trans (by assumption) | exact AH.none_put (by assumption) | exact AH.none_put (AH.none_put (by assumption)) | (simp only [AH.blk_setTok, AH.tok_put] at *; first | assumption | exact AH.none_put (by assumption)))) | (refine AH.le_putM ?_ (by first | assumption | exact (AH.mp_putM_ne _ _ (by assumption)).trans (by assumption) | (simp only [AH.mp_put, AH.mp_setTok] at *; assumption))))) fun i hi => .of_vg hm ?_
  obtain ⟨h1, h2⟩ := hi
  by_cases h3 : i < n
  · have hc : (i : Int) < (n : Int) := by omega
    have hc2 : (i : Int) < (l.length : Int) := by omega
    have hil : i < l.length := by omega
    simp only [hc, hc2, i64s_drop hil, F_base_Order, g_base_Order, go_sem, reduceIte, Nat.reduceEqDiff, Nat.reduceAdd, Nat.reduceMul, Nat.reduceSub, reduceCtorEq, Nat.reduceLeDiff, Nat.reduceLT, Int.reduceLT, Int.reduceLE, Int.reduceToNat, Int.reduceAdd, Int.reduceSub, Int.reduceNeg, Int.reduceMul, Int.reduceEq, ← Bool.decide_and, ← Bool.decide_or, ↓tq_n, ↓tq_e, ↓tq_r, ↓bq_n, ↓bq_e, ↓bq_r, ↓rq_n, ↓rq_r, ↓rq_e]
    refine ⟨fun h4 => ?_, fun h4 => ⟨fun h5 => ?_, fun h5 => ?_⟩⟩
    · exact ret_ok (by rw [no i h3 (fun hh => by have := hh.1; omega)])
    · exact ret_ok (by rw [no i h3 (fun hh => by have := hh.1; omega)])
    refine awp_loop (fun k : Nat => [(0, .sl nl l.length (i64s l) tl), (1, I n), (5, I i), (6, I k)]) (fun _ => h') (fun k => k ≤ i ∧ ∀ j, j < k → l.getD i 0 ≠ l.getD j 0) (fun k => i - k) 0 ⟨Nat.zero_le _, fun j hj => absurd hj (Nat.not_lt_zero _)⟩ (GStep.forget (by repeat' first | exact EnvLe.nil _ | refine EnvLe.cons (AV.le.of_eq rfl) ?_ | refine EnvLe.cons (AV.le.undef _) ?_ | refine EnvLe.cons AV.le.unk ?_) (by repeat' first | exact AH.le.refl _ | assumption | (refine AH.le_put ?_ (by first | assumption | exact (AH.blk_put_ne _ _ (by assumption)).trans (by assumption) | exact AH.none_put (by assumption) | exact AH.none_put (AH.none_put (by assumption)) | (simp only [AH.blk_setTok, AH.tok_put] at *; first | assumption | exact AH.none_put (by assumption)))) | (refine AH.le_setTok ?_ (by first | assumption | exact (AH.blk_put_ne _ _ (by assumption)).trans (by assumption) | exact AH.none_put (by assumption) | exact AH.none_put (AH.none_put (by assumption)) | (simp only [AH.blk_setTok, AH.tok_put] at *; first | assumption | exact AH.none_put (by assumption)))) | (refine AH.le_putM ?_ (by first | assumption | exact (AH.mp_putM_ne _ _ (by assumption)).trans (by assumption) | (simp only [AH.mp_put, AH.mp_setTok] at *; assumption))))) fun k hk => .of_vg hm ?_
    obtain ⟨k1, k2⟩ := hk
    by_cases k3 : k < i
    · have kc : (k : Int) < (i : Int) := by omega
      have kc2 : (k : Int) < (l.length : Int) := by omega
      simp only [hc2, kc, kc2, i64s_drop hil, i64s_drop (show k < l.length by omega), F_base_Order, g_base_Order, go_sem, reduceIte, Nat.reduceEqDiff, Nat.reduceAdd, Nat.reduceMul, Nat.reduceSub, reduceCtorEq, Nat.reduceLeDiff, Nat.reduceLT, Int.reduceLT, Int.reduceLE, Int.reduceToNat, Int.reduceAdd, Int.reduceSub, Int.reduceNeg, Int.reduceMul, Int.reduceEq, ← Bool.decide_and, ← Bool.decide_or, ↓tq_n, ↓tq_e, ↓tq_r, ↓bq_n, ↓bq_e, ↓bq_r, ↓rq_n, ↓rq_r, ↓rq_e]
      refine ⟨fun h6 => ?_, fun h6 => ⟨by rw [inR64]; omega, k + 1, ⟨by omega, all_succ k2 h6⟩, by omega, (GStep.forget (by repeat' first | exact EnvLe.nil _ | refine EnvLe.cons (AV.le.of_eq rfl) ?_ | refine EnvLe.cons (AV.le.undef _) ?_ | refine EnvLe.cons AV.le.unk ?_) (by repeat' first | exact AH.le.refl _ | assumption | (refine AH.le_put ?_ (by first | assumption | exact (AH.blk_put_ne _ _ (by assumption)).trans (by assumption) | exact AH.none_put (by assumption) | exact AH.none_put (AH.none_put (by assumption)) | (simp only [AH.blk_setTok, AH.tok_put] at *; first | assumption | exact AH.none_put (by assumption)))) | (refine AH.le_setTok ?_ (by first | assumption | exact (AH.blk_put_ne _ _ (by assumption)).trans (by assumption) | exact AH.none_put (by assumption) | exact AH.none_put (AH.none_put (by assumption)) | (simp only [AH.blk_setTok, AH.tok_put] at *; first | assumption | exact AH.none_put (by assumption)))) | (refine AH.le_putM ?_ (by first | assumption | exact (AH.mp_putM_ne _ _ (by assumption)).trans (by assumption) | (simp only [AH.mp_put, AH.mp_setTok] at *; assumption)))))⟩⟩
      exact ret_ok (by rw [no i h3 (fun hh => hh.2 k k3 h6)])
    · have k3 : k = i := by omega
      subst k3
      simp only [F_base_Order, g_base_Order, go_sem, reduceIte, Nat.reduceEqDiff, Nat.reduceAdd, Nat.reduceMul, Nat.reduceSub, reduceCtorEq, Nat.reduceLeDiff, Nat.reduceLT, Int.reduceLT, Int.reduceLE, Int.reduceToNat, Int.reduceAdd, Int.reduceSub, Int.reduceNeg, Int.reduceMul, Int.reduceEq, ← Bool.decide_and, ← Bool.decide_or, ↓tq_n, ↓tq_e, ↓tq_r, ↓bq_n, ↓bq_e, ↓bq_r, ↓rq_n, ↓rq_r, ↓rq_e]
      exact ⟨by rw [inR64]; omega, k + 1, ⟨by omega, all_succ h2 ⟨by omega, k2⟩⟩, by omega, (GStep.forget (by repeat' first | exact EnvLe.nil _ | refine EnvLe.cons (AV.le.of_eq rfl) ?_ | refine EnvLe.cons (AV.le.undef _) ?_ | refine EnvLe.cons AV.le.unk ?_) (by repeat' first | exact AH.le.refl _ | assumption | (refine AH.le_put ?_ (by first | assumption | exact (AH.blk_put_ne _ _ (by assumption)).trans (by assumption) | exact AH.none_put (by assumption) | exact AH.none_put (AH.none_put (by assumption)) | (simp only [AH.blk_setTok, AH.tok_put] at *; first | assumption | exact AH.none_put (by assumption)))) | (refine AH.le_setTok ?_ (by first | assumption | exact (AH.blk_put_ne _ _ (by assumption)).trans (by assumption) | exact AH.none_put (by assumption) | exact AH.none_put (AH.none_put (by assumption)) | (simp only [AH.blk_setTok, AH.tok_put] at *; first | assumption | exact AH.none_put (by assumption)))) | (refine AH.le_putM ?_ (by first | assumption | exact (AH.mp_putM_ne _ _ (by assumption)).trans (by assumption) | (simp only [AH.mp_put, AH.mp_setTok] at *; assumption)))))⟩
  · have h3 : i = n := by omega
    subst h3
    simp only [F_base_Order, g_base_Order, go_sem, reduceIte, Nat.reduceEqDiff, Nat.reduceAdd, Nat.reduceMul, Nat.reduceSub, reduceCtorEq, Nat.reduceLeDiff, Nat.reduceLT, Int.reduceLT, Int.reduceLE, Int.reduceToNat, Int.reduceAdd, Int.reduceSub, Int.reduceNeg, Int.reduceMul, Int.reduceEq, ← Bool.decide_and, ← Bool.decide_or, ↓tq_n, ↓tq_e, ↓tq_r, ↓bq_n, ↓bq_e, ↓bq_r, ↓rq_n, ↓rq_r, ↓rq_e]
    have : Prm l i := ⟨hln, h2⟩
    exact ret_ok (by simp [this])
end Go.Proofs.Ytnekkkjedmlloaa
