/- Calls of functions of this seat's program: a number repeated. No condition. -/
import Derived.Test.YtndcbompcnlhmaaC6
import Derived.Test.YtndcbompcnlhmaaD1
import Derived.Test.YtndcbompcnlhmaaA23
namespace Go.Proofs.Ytndcbompcnlhmaa
open Go Go.Abs
set_option linter.unusedSimpArgs false
set_option linter.unusedVariables false
set_option maxRecDepth 20000

theorem shr32 {n : Nat} (hn : n < 4294967296) : Int.fdiv (n : Int) (2 ^ Nat.min 32 (IntKind.bits .u64)) = 0 := by
  have e : Nat.min 32 (IntKind.bits .u64) = 32 := rfl
  rw [e, fdiv_pow, Nat.div_eq_of_lt (by omega)]; rfl
theorem and32 {n : Nat} (hn : n < 4294967296) : bitop .and .u64 (n : Int) 4294967295 = n := by
  have := bitu64_and (x := n) (y := 4294967295) (by omega) (by omega)
  rw [show ((4294967295 : Nat) : Int) = 4294967295 from rfl] at this
  rw [this]
  have h2 := Nat.and_two_pow_sub_one_eq_mod n 32
  rw [show 2 ^ 32 - 1 = 4294967295 from rfl] at h2
  rw [h2, Nat.mod_eq_of_lt (by omega)]
theorem r_math_bits_Mul64 (n : Nat) (hn : n < 4294967296) (h : AH) : RCall Try.prog n_math_bits_Mul64W [.int .u64 1, .int .u64 n] h (.tup [.int .u64 0, .int .u64 n]) := by
  refine RCall.of hm cF_math_bits_Mul64W (by simp [g_math_bits_Mul64W]) fun hw h' hl => ?_
  have a1 := and32 hn
  have a2 : Int.fdiv (n : Int) (2 ^ Nat.min 32 64) = 0 := shr32 hn
  have a3 : bitop .and .u64 1 4294967295 = 1 := by decide
  have a4 : Int.fdiv 1 (2 ^ Nat.min 32 64) = 0 := by decide
  have a5 : bitop .and .u64 0 4294967295 = 0 := by decide
  have a6 : Int.fdiv 0 (2 ^ Nat.min 32 64) = 0 := by decide
  simp only [a1, a2, a3, a4, a5, a6, Int.one_mul, Int.zero_mul, Int.mul_zero, Int.add_zero, Int.zero_add, F_math_bits_Mul64W, g_math_bits_Mul64W, go_sem, reduceIte, Nat.reduceEqDiff, Nat.reduceAdd, Nat.reduceMul, Nat.reduceSub, reduceCtorEq, Nat.reduceLeDiff, Nat.reduceLT, Int.reduceLT, Int.reduceLE, Int.reduceToNat, Int.reduceAdd, Int.reduceSub, Int.reduceNeg, Int.reduceMul, Int.reduceEq, ← Bool.decide_and, ← Bool.decide_or, ↓tq_n, ↓tq_e, ↓tq_r, ↓bq_n, ↓bq_e, ↓bq_r, ↓rq_n, ↓rq_r, ↓rq_e]
  have i0 : InR .u64 0 := by rw [inRu64]; omega
  have i1 : InR .u64 (n : Int) := by rw [inRu64]; omega
  simp only [i0, i1, true_and]
  refine ret_hb (by repeat' first | exact AH.le.refl _ | assumption | (refine AH.le_put ?_ (by first | assumption | exact (AH.blk_put_ne _ _ (by assumption)).trans (by assumption) | exact AH.none_put (by assumption) | exact AH.none_put (AH.none_put (by assumption)) | (simp only [AH.blk_setTok, AH.tok_put] at *; first | assumption | exact AH.none_put (by assumption)))) | (refine AH.le_setTok ?_ (by first | assumption | exact (AH.blk_put_ne _ _ (by assumption)).trans (by assumption) | exact AH.none_put (by assumption) | exact AH.none_put (AH.none_put (by assumption)) | (simp only [AH.blk_setTok, AH.tok_put] at *; first | assumption | exact AH.none_put (by assumption)))) | (refine AH.le_putM ?_ (by first | assumption | exact (AH.mp_putM_ne _ _ (by assumption)).trans (by assumption) | (simp only [AH.mp_put, AH.mp_setTok] at *; assumption)))) ?_
  rfl
theorem r_math_bits_Mul (n : Nat) (hn : n < 4294967296) (h : AH) : RCall Try.prog n_math_bits_MulW [.int .u64 1, .int .u64 n] h (.tup [.int .u64 0, .int .u64 n]) := by
  refine RCall.of hm cF_math_bits_MulW (by simp [g_math_bits_MulW]) fun hw h' hl => ?_
  simp only [F_math_bits_MulW, g_math_bits_MulW, go_sem, reduceIte, Nat.reduceEqDiff, Nat.reduceAdd, Nat.reduceMul, Nat.reduceSub, reduceCtorEq, Nat.reduceLeDiff, Nat.reduceLT, Int.reduceLT, Int.reduceLE, Int.reduceToNat, Int.reduceAdd, Int.reduceSub, Int.reduceNeg, Int.reduceMul, Int.reduceEq, ← Bool.decide_and, ← Bool.decide_or, ↓tq_n, ↓tq_e, ↓tq_r, ↓bq_n, ↓bq_e, ↓bq_r, ↓rq_n, ↓rq_r, ↓rq_e]
  refine CallG.mk (r_math_bits_Mul64 n hn _) ?_
  simp only [F_math_bits_MulW, g_math_bits_MulW, go_sem, reduceIte, Nat.reduceEqDiff, Nat.reduceAdd, Nat.reduceMul, Nat.reduceSub, reduceCtorEq, Nat.reduceLeDiff, Nat.reduceLT, Int.reduceLT, Int.reduceLE, Int.reduceToNat, Int.reduceAdd, Int.reduceSub, Int.reduceNeg, Int.reduceMul, Int.reduceEq, ← Bool.decide_and, ← Bool.decide_or, ↓tq_n, ↓tq_e, ↓tq_r, ↓bq_n, ↓bq_e, ↓bq_r, ↓rq_n, ↓rq_r, ↓rq_e]
  refine ret_hb (by repeat' first | exact AH.le.refl _ | assumption | (refine AH.le_put ?_ (by first | assumption | exact (AH.blk_put_ne _ _ (by assumption)).trans (by assumption) | exact AH.none_put (by assumption) | exact AH.none_put (AH.none_put (by assumption)) | (simp only [AH.blk_setTok, AH.tok_put] at *; first | assumption | exact AH.none_put (by assumption)))) | (refine AH.le_setTok ?_ (by first | assumption | exact (AH.blk_put_ne _ _ (by assumption)).trans (by assumption) | exact AH.none_put (by assumption) | exact AH.none_put (AH.none_put (by assumption)) | (simp only [AH.blk_setTok, AH.tok_put] at *; first | assumption | exact AH.none_put (by assumption)))) | (refine AH.le_putM ?_ (by first | assumption | exact (AH.mp_putM_ne _ _ (by assumption)).trans (by assumption) | (simp only [AH.mp_put, AH.mp_setTok] at *; assumption)))) ?_
  rfl

theorem spl_fill {α : Type} (x y : α) (k d n : Nat) (h : k + d ≤ n) : spl (List.replicate k x ++ List.replicate (n - k) y) k (List.replicate d x) = List.replicate (k + d) x ++ List.replicate (n - (k + d)) y := by
  rw [spl_eq _ _ _ (by simp only [List.length_append, List.length_replicate]; omega)]
  rw [List.take_append_of_le_length (by simp), List.take_replicate, List.length_replicate, Nat.min_self, List.drop_append, List.length_replicate, List.drop_replicate]
  rw [show k - (k + d) = 0 by omega, List.replicate_zero, List.nil_append, List.drop_replicate, List.replicate_append_replicate]
  congr 2
  omega
theorem allOne_rep (n : Nat) (x : AV) (h : x.one = true) : allOne (List.replicate n x) = true := by
  induction n with
  | zero => rfl
  | succ n ih => rw [List.replicate_succ]; simp [allOne, h, ih]
theorem s_slices_Repeat (v : Int) (nl : Bool) (tl : Tail) (n : Nat) (hn : n ≤ 100000) (h : AH) :
    ACalls Try.prog n_slices_Repeat_intW [.sl nl 1 [I v] tl, I n] h (fun r h'' => ∃ b, h.blk b = none ∧ r = .msl b 0 n (some n) ∧ h'' = h.put b (List.replicate n (I v))) := by
  refine ACalls.of hm cF_slices_Repeat_intW (by simp [g_slices_Repeat_intW]) fun hw => ?_
  have w1 : IntKind.wrap .u64 1 = 1 := by decide
  have w2 : IntKind.wrap .u64 (n : Int) = n := wrap_u64 (by omega)
  have w3 : IntKind.wrap .i64 (n : Int) = n := wrap_nat (by omega)
  have c0 : ¬ (n : Int) < 0 := by omega
  simp only [c0, w1, w2, F_slices_Repeat_intW, g_slices_Repeat_intW, go_sem, reduceIte, Nat.reduceEqDiff, Nat.reduceAdd, Nat.reduceMul, Nat.reduceSub, reduceCtorEq, Nat.reduceLeDiff, Nat.reduceLT, Int.reduceLT, Int.reduceLE, Int.reduceToNat, Int.reduceAdd, Int.reduceSub, Int.reduceNeg, Int.reduceMul, Int.reduceEq, ← Bool.decide_and, ← Bool.decide_or, ↓tq_n, ↓tq_e, ↓tq_r, ↓bq_n, ↓bq_e, ↓bq_r, ↓rq_n, ↓rq_r, ↓rq_e]
  refine CallG.mk (r_math_bits_Mul n (by omega) _) ?_
  have c1 : ¬ (9223372036854775807 : Int) < n := by omega
  have c1 : decide ((9223372036854775807 : Int) < n) = false := by simp; omega
  simp only [c1, w3, F_slices_Repeat_intW, g_slices_Repeat_intW, go_sem, reduceIte, Nat.reduceEqDiff, Nat.reduceAdd, Nat.reduceMul, Nat.reduceSub, reduceCtorEq, Nat.reduceLeDiff, Nat.reduceLT, Int.reduceLT, Int.reduceLE, Int.reduceToNat, Int.reduceAdd, Int.reduceSub, Int.reduceNeg, Int.reduceMul, Int.reduceEq, ← Bool.decide_and, ← Bool.decide_or, ↓tq_n, ↓tq_e, ↓tq_r, ↓bq_n, ↓bq_e, ↓bq_r, ↓rq_n, ↓rq_r, ↓rq_e]
  refine MakeG.mk (by omega) (Int.le_refl _) (by omega) (by omega) fun b hb => ?_
  rw [flat_rep]
  simp only [List.length_replicate, Nat.zero_mul, F_slices_Repeat_intW, g_slices_Repeat_intW, go_sem, reduceIte, Nat.reduceEqDiff, Nat.reduceAdd, Nat.reduceMul, Nat.reduceSub, reduceCtorEq, Nat.reduceLeDiff, Nat.reduceLT, Int.reduceLT, Int.reduceLE, Int.reduceToNat, Int.reduceAdd, Int.reduceSub, Int.reduceNeg, Int.reduceMul, Int.reduceEq, ← Bool.decide_and, ← Bool.decide_or, ↓tq_n, ↓tq_e, ↓tq_r, ↓bq_n, ↓bq_e, ↓bq_r, ↓rq_n, ↓rq_r, ↓rq_e]
  have e0 : spl (List.replicate n (AV.int .i64 0)) 0 (List.take (Nat.min 1 n) [I v]) = List.replicate (Nat.min 1 n) (I v) ++ List.replicate (n - Nat.min 1 n) (I 0) := by
    have := spl_fill (I v) (I 0) 0 (Nat.min 1 n) n (by have : Nat.min 1 n ≤ n := Nat.min_le_right 1 n; omega)
    rw [List.replicate_zero, List.nil_append, Nat.sub_zero, Nat.zero_add] at this
    rw [← this]
    congr 1
    cases n with
    | zero => rfl
    | succ n => rw [show Nat.min 1 (n + 1) = 1 from Nat.min_eq_left (by omega)]; rfl
  rw [e0]
  refine awp_loop (fun k : Nat => [(7, .msl b 0 n (some n)), (8, I k)]) (fun k => h.put b (List.replicate k (I v) ++ List.replicate (n - k) (I 0))) (fun k => k ≤ n ∧ (k = 0 → n = 0)) (fun k => n - k) (Nat.min 1 n) ⟨Nat.min_le_right 1 n, fun hh => ?_⟩ (GStep.forget (by repeat' first | exact EnvLe.nil _ | refine EnvLe.cons (AV.le.of_eq rfl) ?_ | refine EnvLe.cons (AV.le.undef _) ?_ | refine EnvLe.cons AV.le.unk ?_) (by repeat' first | exact AH.le.refl _ | assumption | (refine AH.le_put ?_ (by first | assumption | exact (AH.blk_put_ne _ _ (by assumption)).trans (by assumption) | exact AH.none_put (by assumption) | exact AH.none_put (AH.none_put (by assumption)) | (simp only [AH.blk_setTok, AH.tok_put] at *; first | assumption | exact AH.none_put (by assumption)))) | (refine AH.le_setTok ?_ (by first | assumption | exact (AH.blk_put_ne _ _ (by assumption)).trans (by assumption) | exact AH.none_put (by assumption) | exact AH.none_put (AH.none_put (by assumption)) | (simp only [AH.blk_setTok, AH.tok_put] at *; first | assumption | exact AH.none_put (by assumption)))) | (refine AH.le_putM ?_ (by first | assumption | exact (AH.mp_putM_ne _ _ (by assumption)).trans (by assumption) | (simp only [AH.mp_put, AH.mp_setTok] at *; assumption))))) fun k hk => .of_vg hm ?_
  · rcases Nat.eq_zero_or_pos n with h1 | h1
    · exact h1
    · have : Nat.min 1 n = 1 := Nat.min_eq_left h1
      omega
  obtain ⟨h1, h2⟩ := hk
  by_cases h3 : k < n
  · have hc3 : (k : Int) < (n : Int) := by omega
    have hk0 : 0 < k := by
      rcases Nat.eq_zero_or_pos k with h4 | h4
      · have := h2 h4; omega
      · exact h4
    have hcl : (List.replicate k (I v) ++ List.replicate (n - k) (I 0)).length = n := by simp only [List.length_append, List.length_replicate]; omega
    simp only [hc3, hcl, Nat.sub_zero, Nat.mul_one, mslCut_lt h3, F_slices_Repeat_intW, g_slices_Repeat_intW, go_sem, reduceIte, Nat.reduceEqDiff, Nat.reduceAdd, Nat.reduceMul, Nat.reduceSub, reduceCtorEq, Nat.reduceLeDiff, Nat.reduceLT, Int.reduceLT, Int.reduceLE, Int.reduceToNat, Int.reduceAdd, Int.reduceSub, Int.reduceNeg, Int.reduceMul, Int.reduceEq, ← Bool.decide_and, ← Bool.decide_or, ↓tq_n, ↓tq_e, ↓tq_r, ↓bq_n, ↓bq_e, ↓bq_r, ↓rq_n, ↓rq_r, ↓rq_e]
    have hmn : Nat.min k (n - k) ≤ n - k := Nat.min_le_right _ _
    have hmk : Nat.min k (n - k) ≤ k := Nat.min_le_left _ _
    have ht : List.take (Nat.min k (n - k)) (List.take k (List.replicate k (I v) ++ List.replicate (n - k) (I 0))) = List.replicate (Nat.min k (n - k)) (I v) := by
      rw [List.take_take, Nat.min_eq_left hmk, List.take_append_of_le_length (by rw [List.length_replicate]; exact hmk), List.take_replicate, Nat.min_eq_left hmk]
    have hone : allOne (List.take k (List.replicate k (I v) ++ List.replicate (n - k) (I 0))) = true := by
      rw [List.take_append_of_le_length (by simp), List.take_replicate, Nat.min_self]
      exact allOne_rep _ _ rfl
    refine ⟨h1, h1, Nat.zero_le _, by omega, h1, hone, by rw [inR64]; omega, k + Nat.min k (n - k), ⟨by omega, by omega⟩, ?_, ?_⟩
    · have : 0 < Nat.min k (n - k) := by rcases Nat.le_total k (n - k) with h | h
                                         · rw [show Nat.min k (n - k) = k from Nat.min_eq_left h]; exact hk0
                                         · rw [show Nat.min k (n - k) = n - k from Nat.min_eq_right h]; omega
      omega
    · rw [ht, spl_fill _ _ _ _ _ (by omega)]
      exact (GStep.forget (by repeat' first | exact EnvLe.nil _ | refine EnvLe.cons (AV.le.of_eq rfl) ?_ | refine EnvLe.cons (AV.le.undef _) ?_ | refine EnvLe.cons AV.le.unk ?_) (by repeat' first | exact AH.le.refl _ | assumption | (refine AH.le_put ?_ (by first | assumption | exact (AH.blk_put_ne _ _ (by assumption)).trans (by assumption) | exact AH.none_put (by assumption) | exact AH.none_put (AH.none_put (by assumption)) | (simp only [AH.blk_setTok, AH.tok_put] at *; first | assumption | exact AH.none_put (by assumption)))) | (refine AH.le_setTok ?_ (by first | assumption | exact (AH.blk_put_ne _ _ (by assumption)).trans (by assumption) | exact AH.none_put (by assumption) | exact AH.none_put (AH.none_put (by assumption)) | (simp only [AH.blk_setTok, AH.tok_put] at *; first | assumption | exact AH.none_put (by assumption)))) | (refine AH.le_putM ?_ (by first | assumption | exact (AH.mp_putM_ne _ _ (by assumption)).trans (by assumption) | (simp only [AH.mp_put, AH.mp_setTok] at *; assumption)))))
  · have h3 : k = n := by omega
    subst h3
    simp only [Nat.sub_self, List.replicate_zero, List.append_nil, F_slices_Repeat_intW, g_slices_Repeat_intW, go_sem, reduceIte, Nat.reduceEqDiff, Nat.reduceAdd, Nat.reduceMul, Nat.reduceSub, reduceCtorEq, Nat.reduceLeDiff, Nat.reduceLT, Int.reduceLT, Int.reduceLE, Int.reduceToNat, Int.reduceAdd, Int.reduceSub, Int.reduceNeg, Int.reduceMul, Int.reduceEq, ← Bool.decide_and, ← Bool.decide_or, ↓tq_n, ↓tq_e, ↓tq_r, ↓bq_n, ↓bq_e, ↓bq_r, ↓rq_n, ↓rq_r, ↓rq_e]
    exact ⟨_, _, RGh.refl _ _, b, hb, rfl, rfl⟩
end Go.Proofs.Ytndcbompcnlhmaa
