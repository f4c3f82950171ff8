/- Calls of functions of this seat's program: package poset. No condition. -/
import Derived.Test.YtndcbompcnlhmaaD0
import Derived.Test.YtndcbompcnlhmaaA23
import Derived.Test.YtndcbompcnlhmaaD1
import Derived.Test.YtndcbompcnlhmaaR0
import Derived.Test.YtndcbompcnlhmaaC6
namespace Go.Proofs.Ytndcbompcnlhmaa
open Go Go.Abs
set_option linter.unusedSimpArgs false
set_option linter.unusedVariables false
set_option maxRecDepth 20000

theorem bitu32_at {m i : Nat} (hm : m < 4294967296) (hi : i ≤ 32) : bitop .and .u32 (Int.fdiv (m : Int) (2 ^ (Nat.min i 32))) 1 = if m.testBit i then 1 else 0 := by
  have e1 : Nat.min i 32 = i := by exact Nat.min_eq_left hi
  rw [e1, fdiv_pow]
  have h1 : m / 2 ^ i ≤ m := Nat.div_le_self _ _
  have h2 := bitu32_and (x := m / 2 ^ i) (y := 1) (by omega) (by omega)
  rw [show ((1 : Nat) : Int) = 1 from rfl] at h2
  rw [h2, Nat.and_one_is_mod, Nat.testBit_eq_decide_div_mod_eq]
  have := Nat.mod_two_eq_zero_or_one (m / 2 ^ i)
  rcases this with h | h <;> simp [h]
theorem shl32_one {i : Nat} (hi : i ≤ 31) : IntKind.wrap .u32 (1 * 2 ^ (Nat.min i 32)) = ((2 ^ i : Nat) : Int) := by
  have e1 : Nat.min i 32 = i := by exact Nat.min_eq_left (by omega)
  rw [e1, Int.one_mul, show (2 : Int) ^ i = ((2 ^ i : Nat) : Int) by simp]
  refine wrap_u32 ?_
  have : 2 ^ i ≤ 2 ^ 31 := Nat.pow_le_pow_right (by decide) hi
  omega
theorem r_poset_has {m i : Nat} (hm' : m < 4294967296) (hi : i < 32) (h : AH) : RCall Try.prog n_poset_set_has [.int .u32 m, I i] h (.bool (m.testBit i)) := by
  refine RCall.of hm cF_poset_set_has (by simp [g_poset_set_has]) fun hw h' hl => ?_
  have h1 := bitu32_at hm' (Nat.le_of_lt hi)
  simp only [h1, F_poset_set_has, g_poset_set_has, go_sem, reduceIte, Nat.reduceEqDiff, Nat.reduceAdd, Nat.reduceMul, Nat.reduceSub, reduceCtorEq, Nat.reduceLeDiff, Nat.reduceLT, Int.reduceLT, Int.reduceLE, Int.reduceToNat, Int.reduceAdd, Int.reduceSub, Int.reduceNeg, Int.reduceMul, Int.reduceEq, ← Bool.decide_and, ← Bool.decide_or, ↓tq_n, ↓tq_e, ↓tq_r, ↓bq_n, ↓bq_e, ↓bq_r, ↓rq_n, ↓rq_r, ↓rq_e]
  exact ret_ok (by cases m.testBit i <;> simp)

/-- Bounded sets. -/
def Sm (out : List Nat) : Prop := ∀ i, out.getD i 0 < 4294967296
theorem Sm.set {out : List Nat} (h : Sm out) {i v : Nat} (hv : v < 4294967296) : Sm (out.set i v) := by
  intro j
  by_cases hi : i < out.length
  · rw [getD_set hi]; split
    · exact hv
    · exact h j
  · rw [List.set_eq_of_length_le (by omega)]; exact h j
theorem or32 {x y : Nat} (hx : x < 4294967296) (hy : y < 4294967296) : x ||| y < 4294967296 := by
  have : x ||| y < 2 ^ 32 := Nat.or_lt_two_pow (by omega) (by omega)
  omega
theorem nxt_sm {n : Nat} (hn : n ≤ 24) {a : List (Int × Int)} (ha : ∀ i, i < a.length → (a.getD i (0, 0)).2 < n) : ∀ k, k ≤ a.length → Sm (nxt n a k) := by
  intro k
  induction k with
  | zero => intro _ i; unfold nxt; rw [List.getD_eq_getElem?_getD, List.getElem?_replicate]; split <;> simp
  | succ k ih =>
    intro hk
    unfold nxt
    refine (ih (by omega)).set (or32 (ih (by omega) _) ?_)
    have h1 := ha k (by omega)
    have : 2 ^ (a.getD k (0, 0)).2.toNat ≤ 2 ^ 31 := Nat.pow_le_pow_right (by decide) (by omega)
    omega
theorem wi_sm {m : Nat} {out : List Nat} (h : Sm out) (i : Nat) : Sm (wi m out i) := by
  induction i with
  | zero => exact h
  | succ i ih => unfold wi; split
                 · exact ih.set (or32 (ih _) (ih _))
                 · exact ih
theorem wr_sm {n : Nat} {out : List Nat} (h : Sm out) (m : Nat) : Sm (wr n out m) := by
  induction m with
  | zero => exact h
  | succ m ih => exact wi_sm ih n
theorem u32s_get {l : List Nat} {i : Nat} (h : i < l.length) : (u32s l).getD i (.int .u32 0) = .int .u32 (l.getD i 0 : Nat) := by
  simp [u32s, List.getD, h]
end Go.Proofs.Ytndcbompcnlhmaa
namespace Go.Proofs.Ytndcbompcnlhmaa
open Go Go.Abs
set_option linter.unusedSimpArgs false
set_option linter.unusedVariables false
set_option maxRecDepth 20000

theorem u32s_drop {l : List Nat} {i : Nat} (h : i < l.length) : (u32s l).drop i = .int .u32 ((l.getD i 0 : Nat) : Int) :: (u32s l).drop (i + 1) := by
  have : (u32s l).drop i = u32s (l.drop i) := by simp [u32s, List.map_drop]
  rw [this, getD_drop l 0 h]
  simp [u32s, List.map_drop]
def Arc (n : Nat) (x : Int × Int) : Prop := 0 ≤ x.1 ∧ x.1 < n ∧ 0 ≤ x.2 ∧ x.2 < n
theorem s_poset_next (n : Nat) (hn : n ≤ 24) (nl : Bool) (a : List (Int × Int)) (tl : Tail) (ha : ∀ i, i < a.length → Arc n (a.getD i (0, 0))) (hal : a.length ≤ 100000) (h : AH) :
    ACalls Try.prog n_poset_next [I n, .sl nl a.length (prs a) tl] h (fun r h'' => ∃ b, h.blk b = none ∧ r = .msl b 0 n (some n) ∧ h'' = h.put b (u32s (nxt n a a.length))) := by
  refine ACalls.of hm cF_poset_next (by simp [g_poset_next]) fun hw => ?_
  simp only [F_poset_next, g_poset_next, go_sem, reduceIte, Nat.reduceEqDiff, Nat.reduceAdd, Nat.reduceMul, Nat.reduceSub, reduceCtorEq, Nat.reduceLeDiff, Nat.reduceLT, Int.reduceLT, Int.reduceLE, Int.reduceToNat, Int.reduceAdd, Int.reduceSub, Int.reduceNeg, Int.reduceMul, Int.reduceEq, ← Bool.decide_and, ← Bool.decide_or, ↓tq_n, ↓tq_e, ↓tq_r, ↓bq_n, ↓bq_e, ↓bq_r, ↓rq_n, ↓rq_r, ↓rq_e]
  refine MakeG.mk (by omega) (Int.le_refl _) (by omega) (by omega) fun b hb => ?_
  rw [flat_rep]
  simp only [F_poset_next, g_poset_next, go_sem, reduceIte, Nat.reduceEqDiff, Nat.reduceAdd, Nat.reduceMul, Nat.reduceSub, reduceCtorEq, Nat.reduceLeDiff, Nat.reduceLT, Int.reduceLT, Int.reduceLE, Int.reduceToNat, Int.reduceAdd, Int.reduceSub, Int.reduceNeg, Int.reduceMul, Int.reduceEq, ← Bool.decide_and, ← Bool.decide_or, ↓tq_n, ↓tq_e, ↓tq_r, ↓bq_n, ↓bq_e, ↓bq_r, ↓rq_n, ↓rq_r, ↓rq_e]
  refine awp_loop (fun i : Nat => [(1, .sl nl a.length (prs a) tl), (5, .msl b 0 n (some n)), (10, .sl nl a.length (prs a) tl), (11, I a.length), (12, I i)]) (fun i => h.put b (u32s (nxt n a i))) (fun i => i ≤ a.length) (fun i => a.length - i) 0 (Nat.zero_le _) (by simp only [nxt, u32s, List.map_replicate]; exact (GStep.forget (by repeat' first | exact EnvLe.nil _ | refine EnvLe.cons (AV.le.of_eq rfl) ?_ | refine EnvLe.cons (AV.le.undef _) ?_ | refine EnvLe.cons AV.le.unk ?_) (by repeat' first | exact AH.le.refl _ | assumption | (refine AH.le_put ?_ (by first | assumption | exact (AH.blk_put_ne _ _ (by assumption)).trans (by assumption) | exact AH.none_put (by assumption) | exact AH.none_put (AH.none_put (by assumption)) | (simp only [AH.blk_setTok, AH.tok_put] at *; first | assumption | exact AH.none_put (by assumption)))) | (refine AH.le_setTok ?_ (by first | assumption | exact (AH.blk_put_ne _ _ (by assumption)).trans (by assumption) | exact AH.none_put (by assumption) | exact AH.none_put (AH.none_put (by assumption)) | (simp only [AH.blk_setTok, AH.tok_put] at *; first | assumption | exact AH.none_put (by assumption)))) | (refine AH.le_putM ?_ (by first | assumption | exact (AH.mp_putM_ne _ _ (by assumption)).trans (by assumption) | (simp only [AH.mp_put, AH.mp_setTok] at *; assumption)))))) fun i hi => .of_vg hm ?_
  by_cases h5 : i < a.length
  · have hc : (i : Int) < (a.length : Int) := by omega
    have hx := ha i h5
    unfold Arc at hx
    have hp : (a.getD i (0, 0)).1.toNat < (nxt n a i).length := by rw [nxt_len]; omega
    have e1 := shl32_one (i := (a.getD i (0, 0)).2.toNat) (by omega)
    have hsm := nxt_sm hn (fun k hk => (ha k hk).2.2.2) i hi
    have hpow : 2 ^ (a.getD i (0, 0)).2.toNat < 4294967296 := by
      have : 2 ^ (a.getD i (0, 0)).2.toNat ≤ 2 ^ 31 := Nat.pow_le_pow_right (by decide) (by omega)
      omega
    have e2 := bitu32_or (hsm (a.getD i (0, 0)).1.toNat) hpow
    simp only [hc, prs_drop h5, u32s_drop hp, e1, e2, F_poset_next, g_poset_next, go_sem, reduceIte, Nat.reduceEqDiff, Nat.reduceAdd, Nat.reduceMul, Nat.reduceSub, reduceCtorEq, Nat.reduceLeDiff, Nat.reduceLT, Int.reduceLT, Int.reduceLE, Int.reduceToNat, Int.reduceAdd, Int.reduceSub, Int.reduceNeg, Int.reduceMul, Int.reduceEq, ← Bool.decide_and, ← Bool.decide_or, ↓tq_n, ↓tq_e, ↓tq_r, ↓bq_n, ↓bq_e, ↓bq_r, ↓rq_n, ↓rq_r, ↓rq_e]
    have e3 : u32s (nxt n a (i + 1)) = (u32s (nxt n a i)).set (a.getD i (0, 0)).1.toNat (AV.int IntKind.u32 ((((nxt n a i).getD (a.getD i (0, 0)).1.toNat 0 ||| 2 ^ (a.getD i (0, 0)).2.toNat : Nat)) : Int)) := by
      simp only [nxt, u32s, List.map_set]
    refine ⟨hx.1, hx.2.1, hx.2.2.1, hx.1, hx.2.1, by rw [u32s_len]; omega, by rw [inR64]; omega, i + 1, by omega, by omega, ?_⟩
    rw [e3]
    exact (GStep.forget (by repeat' first | exact EnvLe.nil _ | refine EnvLe.cons (AV.le.of_eq rfl) ?_ | refine EnvLe.cons (AV.le.undef _) ?_ | refine EnvLe.cons AV.le.unk ?_) (by repeat' first | exact AH.le.refl _ | assumption | (refine AH.le_put ?_ (by first | assumption | exact (AH.blk_put_ne _ _ (by assumption)).trans (by assumption) | exact AH.none_put (by assumption) | exact AH.none_put (AH.none_put (by assumption)) | (simp only [AH.blk_setTok, AH.tok_put] at *; first | assumption | exact AH.none_put (by assumption)))) | (refine AH.le_setTok ?_ (by first | assumption | exact (AH.blk_put_ne _ _ (by assumption)).trans (by assumption) | exact AH.none_put (by assumption) | exact AH.none_put (AH.none_put (by assumption)) | (simp only [AH.blk_setTok, AH.tok_put] at *; first | assumption | exact AH.none_put (by assumption)))) | (refine AH.le_putM ?_ (by first | assumption | exact (AH.mp_putM_ne _ _ (by assumption)).trans (by assumption) | (simp only [AH.mp_put, AH.mp_setTok] at *; assumption)))))
  have h5 : i = a.length := by omega
  subst h5
  simp only [F_poset_next, g_poset_next, go_sem, reduceIte, Nat.reduceEqDiff, Nat.reduceAdd, Nat.reduceMul, Nat.reduceSub, reduceCtorEq, Nat.reduceLeDiff, Nat.reduceLT, Int.reduceLT, Int.reduceLE, Int.reduceToNat, Int.reduceAdd, Int.reduceSub, Int.reduceNeg, Int.reduceMul, Int.reduceEq, ← Bool.decide_and, ← Bool.decide_or, ↓tq_n, ↓tq_e, ↓tq_r, ↓bq_n, ↓bq_e, ↓bq_r, ↓rq_n, ↓rq_r, ↓rq_e]
  exact ⟨_, _, RGh.refl _ _, b, hb, rfl, rfl⟩
theorem s_poset_reach (n : Nat) (hn : n ≤ 24) (nl : Bool) (a : List (Int × Int)) (tl : Tail) (ha : ∀ i, i < a.length → Arc n (a.getD i (0, 0))) (hal : a.length ≤ 100000) (h : AH) :
    ACalls Try.prog n_poset_reachW [I n, .sl nl a.length (prs a) tl] h (fun r h'' => ∃ b, h.blk b = none ∧ r = .msl b 0 n (some n) ∧ h'' = h.put b (u32s (wr n (nxt n a a.length) n))) := by
  refine ACalls.of hm cF_poset_reachW (by simp [g_poset_reachW]) fun hw => ?_
  simp only [F_poset_reachW, g_poset_reachW, go_sem, reduceIte, Nat.reduceEqDiff, Nat.reduceAdd, Nat.reduceMul, Nat.reduceSub, reduceCtorEq, Nat.reduceLeDiff, Nat.reduceLT, Int.reduceLT, Int.reduceLE, Int.reduceToNat, Int.reduceAdd, Int.reduceSub, Int.reduceNeg, Int.reduceMul, Int.reduceEq, ← Bool.decide_and, ← Bool.decide_or, ↓tq_n, ↓tq_e, ↓tq_r, ↓bq_n, ↓bq_e, ↓bq_r, ↓rq_n, ↓rq_r, ↓rq_e]
  refine CallS.mk (s_poset_next n hn nl a tl ha hal _) fun r h'' hr => ?_
  obtain ⟨b, hb, rfl, rfl⟩ := hr
  simp only [F_poset_reachW, g_poset_reachW, go_sem, reduceIte, Nat.reduceEqDiff, Nat.reduceAdd, Nat.reduceMul, Nat.reduceSub, reduceCtorEq, Nat.reduceLeDiff, Nat.reduceLT, Int.reduceLT, Int.reduceLE, Int.reduceToNat, Int.reduceAdd, Int.reduceSub, Int.reduceNeg, Int.reduceMul, Int.reduceEq, ← Bool.decide_and, ← Bool.decide_or, ↓tq_n, ↓tq_e, ↓tq_r, ↓bq_n, ↓bq_e, ↓bq_r, ↓rq_n, ↓rq_r, ↓rq_e]
  have hsm := nxt_sm hn (fun k hk => (ha k hk).2.2.2) a.length (Nat.le_refl _)
  have hln := nxt_len n a a.length
  generalize nxt n a a.length = o at hsm hln ⊢
  refine awp_loop (fun m : Nat => [(0, I n), (5, .msl b 0 n (some n)), (11, I n), (12, I m)]) (fun m => h.put b (u32s (wr n o m))) (fun m => m ≤ n) (fun m => n - m) 0 (Nat.zero_le _) (GStep.forget (by repeat' first | exact EnvLe.nil _ | refine EnvLe.cons (AV.le.of_eq rfl) ?_ | refine EnvLe.cons (AV.le.undef _) ?_ | refine EnvLe.cons AV.le.unk ?_) (by repeat' first | exact AH.le.refl _ | assumption | (refine AH.le_put ?_ (by first | assumption | exact (AH.blk_put_ne _ _ (by assumption)).trans (by assumption) | exact AH.none_put (by assumption) | exact AH.none_put (AH.none_put (by assumption)) | (simp only [AH.blk_setTok, AH.tok_put] at *; first | assumption | exact AH.none_put (by assumption)))) | (refine AH.le_setTok ?_ (by first | assumption | exact (AH.blk_put_ne _ _ (by assumption)).trans (by assumption) | exact AH.none_put (by assumption) | exact AH.none_put (AH.none_put (by assumption)) | (simp only [AH.blk_setTok, AH.tok_put] at *; first | assumption | exact AH.none_put (by assumption)))) | (refine AH.le_putM ?_ (by first | assumption | exact (AH.mp_putM_ne _ _ (by assumption)).trans (by assumption) | (simp only [AH.mp_put, AH.mp_setTok] at *; assumption))))) fun m hmn => .of_vg hm ?_
  by_cases h5 : m < n
  · have hc : (m : Int) < (n : Int) := by omega
    simp only [hc, F_poset_reachW, g_poset_reachW, go_sem, reduceIte, Nat.reduceEqDiff, Nat.reduceAdd, Nat.reduceMul, Nat.reduceSub, reduceCtorEq, Nat.reduceLeDiff, Nat.reduceLT, Int.reduceLT, Int.reduceLE, Int.reduceToNat, Int.reduceAdd, Int.reduceSub, Int.reduceNeg, Int.reduceMul, Int.reduceEq, ← Bool.decide_and, ← Bool.decide_or, ↓tq_n, ↓tq_e, ↓tq_r, ↓bq_n, ↓bq_e, ↓bq_r, ↓rq_n, ↓rq_r, ↓rq_e]
    have hsm2 := wr_sm (n := n) hsm m
    have hln2 := wr_len n o m
    refine awp_loop (fun i : Nat => [(0, I n), (5, .msl b 0 n (some n)), (6, I m), (11, I n), (12, I m), (15, I n), (16, I i)]) (fun i => h.put b (u32s (wi m (wr n o m) i))) (fun i => i ≤ n) (fun i => n - i) 0 (Nat.zero_le _) (GStep.forget (by repeat' first | exact EnvLe.nil _ | refine EnvLe.cons (AV.le.of_eq rfl) ?_ | refine EnvLe.cons (AV.le.undef _) ?_ | refine EnvLe.cons AV.le.unk ?_) (by repeat' first | exact AH.le.refl _ | assumption | (refine AH.le_put ?_ (by first | assumption | exact (AH.blk_put_ne _ _ (by assumption)).trans (by assumption) | exact AH.none_put (by assumption) | exact AH.none_put (AH.none_put (by assumption)) | (simp only [AH.blk_setTok, AH.tok_put] at *; first | assumption | exact AH.none_put (by assumption)))) | (refine AH.le_setTok ?_ (by first | assumption | exact (AH.blk_put_ne _ _ (by assumption)).trans (by assumption) | exact AH.none_put (by assumption) | exact AH.none_put (AH.none_put (by assumption)) | (simp only [AH.blk_setTok, AH.tok_put] at *; first | assumption | exact AH.none_put (by assumption)))) | (refine AH.le_putM ?_ (by first | assumption | exact (AH.mp_putM_ne _ _ (by assumption)).trans (by assumption) | (simp only [AH.mp_put, AH.mp_setTok] at *; assumption))))) fun i hi => .of_vg hm ?_
    by_cases h6 : i < n
    · have hc2 : (i : Int) < (n : Int) := by omega
      have hsm3 := wi_sm (m := m) hsm2 i
      have hln3 := wi_len m (wr n o m) i
      have hi1 : i < (wi m (wr n o m) i).length := by omega
      have hm1 : m < (wi m (wr n o m) i).length := by omega
      simp only [hc2, u32s_drop hi1, F_poset_reachW, g_poset_reachW, go_sem, reduceIte, Nat.reduceEqDiff, Nat.reduceAdd, Nat.reduceMul, Nat.reduceSub, reduceCtorEq, Nat.reduceLeDiff, Nat.reduceLT, Int.reduceLT, Int.reduceLE, Int.reduceToNat, Int.reduceAdd, Int.reduceSub, Int.reduceNeg, Int.reduceMul, Int.reduceEq, ← Bool.decide_and, ← Bool.decide_or, ↓tq_n, ↓tq_e, ↓tq_r, ↓bq_n, ↓bq_e, ↓bq_r, ↓rq_n, ↓rq_r, ↓rq_e]
      refine CallG.mk (r_poset_has (hsm3 i) (by omega) _) ?_
      have e2 := bitu32_or (hsm3 i) (hsm3 m)
      by_cases h7 : ((wi m (wr n o m) i).getD i 0).testBit m = true
      · have e3 : u32s (wi m (wr n o m) (i + 1)) = (u32s (wi m (wr n o m) i)).set i (AV.int IntKind.u32 (((wi m (wr n o m) i).getD i 0 ||| (wi m (wr n o m) i).getD m 0 : Nat) : Int)) := by
          rw [wi, if_pos (show bt _ i m = true from h7)]
          simp only [u32s, List.map_set]
        simp only [h7, u32s_drop hi1, u32s_drop hm1, e2, F_poset_reachW, g_poset_reachW, go_sem, reduceIte, Nat.reduceEqDiff, Nat.reduceAdd, Nat.reduceMul, Nat.reduceSub, reduceCtorEq, Nat.reduceLeDiff, Nat.reduceLT, Int.reduceLT, Int.reduceLE, Int.reduceToNat, Int.reduceAdd, Int.reduceSub, Int.reduceNeg, Int.reduceMul, Int.reduceEq, ← Bool.decide_and, ← Bool.decide_or, ↓tq_n, ↓tq_e, ↓tq_r, ↓bq_n, ↓bq_e, ↓bq_r, ↓rq_n, ↓rq_r, ↓rq_e]
        refine ⟨hc2, hc, hc2, by rw [u32s_len]; omega, by rw [inR64]; omega, i + 1, by omega, by omega, ?_⟩
        rw [e3]
        exact (GStep.forget (by repeat' first | exact EnvLe.nil _ | refine EnvLe.cons (AV.le.of_eq rfl) ?_ | refine EnvLe.cons (AV.le.undef _) ?_ | refine EnvLe.cons AV.le.unk ?_) (by repeat' first | exact AH.le.refl _ | assumption | (refine AH.le_put ?_ (by first | assumption | exact (AH.blk_put_ne _ _ (by assumption)).trans (by assumption) | exact AH.none_put (by assumption) | exact AH.none_put (AH.none_put (by assumption)) | (simp only [AH.blk_setTok, AH.tok_put] at *; first | assumption | exact AH.none_put (by assumption)))) | (refine AH.le_setTok ?_ (by first | assumption | exact (AH.blk_put_ne _ _ (by assumption)).trans (by assumption) | exact AH.none_put (by assumption) | exact AH.none_put (AH.none_put (by assumption)) | (simp only [AH.blk_setTok, AH.tok_put] at *; first | assumption | exact AH.none_put (by assumption)))) | (refine AH.le_putM ?_ (by first | assumption | exact (AH.mp_putM_ne _ _ (by assumption)).trans (by assumption) | (simp only [AH.mp_put, AH.mp_setTok] at *; assumption)))))
      · have e3 : wi m (wr n o m) (i + 1) = wi m (wr n o m) i := by
          rw [wi, if_neg (show ¬ bt _ i m = true from h7)]
        simp only [h7, F_poset_reachW, g_poset_reachW, go_sem, reduceIte, Nat.reduceEqDiff, Nat.reduceAdd, Nat.reduceMul, Nat.reduceSub, reduceCtorEq, Nat.reduceLeDiff, Nat.reduceLT, Int.reduceLT, Int.reduceLE, Int.reduceToNat, Int.reduceAdd, Int.reduceSub, Int.reduceNeg, Int.reduceMul, Int.reduceEq, ← Bool.decide_and, ← Bool.decide_or, ↓tq_n, ↓tq_e, ↓tq_r, ↓bq_n, ↓bq_e, ↓bq_r, ↓rq_n, ↓rq_r, ↓rq_e]
        refine ⟨by rw [inR64]; omega, i + 1, by omega, by omega, ?_⟩
        rw [e3]
        exact (GStep.forget (by repeat' first | exact EnvLe.nil _ | refine EnvLe.cons (AV.le.of_eq rfl) ?_ | refine EnvLe.cons (AV.le.undef _) ?_ | refine EnvLe.cons AV.le.unk ?_) (by repeat' first | exact AH.le.refl _ | assumption | (refine AH.le_put ?_ (by first | assumption | exact (AH.blk_put_ne _ _ (by assumption)).trans (by assumption) | exact AH.none_put (by assumption) | exact AH.none_put (AH.none_put (by assumption)) | (simp only [AH.blk_setTok, AH.tok_put] at *; first | assumption | exact AH.none_put (by assumption)))) | (refine AH.le_setTok ?_ (by first | assumption | exact (AH.blk_put_ne _ _ (by assumption)).trans (by assumption) | exact AH.none_put (by assumption) | exact AH.none_put (AH.none_put (by assumption)) | (simp only [AH.blk_setTok, AH.tok_put] at *; first | assumption | exact AH.none_put (by assumption)))) | (refine AH.le_putM ?_ (by first | assumption | exact (AH.mp_putM_ne _ _ (by assumption)).trans (by assumption) | (simp only [AH.mp_put, AH.mp_setTok] at *; assumption)))))
    have h6 : i = n := by omega
    subst h6
    simp only [F_poset_reachW, g_poset_reachW, go_sem, reduceIte, Nat.reduceEqDiff, Nat.reduceAdd, Nat.reduceMul, Nat.reduceSub, reduceCtorEq, Nat.reduceLeDiff, Nat.reduceLT, Int.reduceLT, Int.reduceLE, Int.reduceToNat, Int.reduceAdd, Int.reduceSub, Int.reduceNeg, Int.reduceMul, Int.reduceEq, ← Bool.decide_and, ← Bool.decide_or, ↓tq_n, ↓tq_e, ↓tq_r, ↓bq_n, ↓bq_e, ↓bq_r, ↓rq_n, ↓rq_r, ↓rq_e]
    exact ⟨by rw [inR64]; omega, m + 1, by omega, by omega, (GStep.forget (by repeat' first | exact EnvLe.nil _ | refine EnvLe.cons (AV.le.of_eq rfl) ?_ | refine EnvLe.cons (AV.le.undef _) ?_ | refine EnvLe.cons AV.le.unk ?_) (by repeat' first | exact AH.le.refl _ | assumption | (refine AH.le_put ?_ (by first | assumption | exact (AH.blk_put_ne _ _ (by assumption)).trans (by assumption) | exact AH.none_put (by assumption) | exact AH.none_put (AH.none_put (by assumption)) | (simp only [AH.blk_setTok, AH.tok_put] at *; first | assumption | exact AH.none_put (by assumption)))) | (refine AH.le_setTok ?_ (by first | assumption | exact (AH.blk_put_ne _ _ (by assumption)).trans (by assumption) | exact AH.none_put (by assumption) | exact AH.none_put (AH.none_put (by assumption)) | (simp only [AH.blk_setTok, AH.tok_put] at *; first | assumption | exact AH.none_put (by assumption)))) | (refine AH.le_putM ?_ (by first | assumption | exact (AH.mp_putM_ne _ _ (by assumption)).trans (by assumption) | (simp only [AH.mp_put, AH.mp_setTok] at *; assumption)))))⟩
  have h5 : m = n := by omega
  subst h5
  simp only [F_poset_reachW, g_poset_reachW, go_sem, reduceIte, Nat.reduceEqDiff, Nat.reduceAdd, Nat.reduceMul, Nat.reduceSub, reduceCtorEq, Nat.reduceLeDiff, Nat.reduceLT, Int.reduceLT, Int.reduceLE, Int.reduceToNat, Int.reduceAdd, Int.reduceSub, Int.reduceNeg, Int.reduceMul, Int.reduceEq, ← Bool.decide_and, ← Bool.decide_or, ↓tq_n, ↓tq_e, ↓tq_r, ↓bq_n, ↓bq_e, ↓bq_r, ↓rq_n, ↓rq_r, ↓rq_e]
  exact ⟨_, _, RGh.refl _ _, b, hb, rfl, rfl⟩
/-- The arcs of sets: of row i, the first k. -/
def lsK (r : List Nat) (i : Nat) : Nat → List (Int × Int)
  | 0 => []
  | k + 1 => lsK r i k ++ if i ≠ k ∧ bt r i k = true then [((i : Int), (k : Int))] else []
def lsI (r : List Nat) : Nat → List (Int × Int)
  | 0 => []
  | i + 1 => lsI r i ++ lsK r i r.length
def acI (r : List Nat) : Nat → Bool
  | 0 => true
  | i + 1 => acI r i && !bt r i i
theorem acI_false {r : List Nat} {i : Nat} : ∀ {n : Nat}, i < n → bt r i i = true → acI r n = false := by
  intro n
  induction n with
  | zero => intro h; omega
  | succ n ih =>
    intro h hb
    rw [acI]
    by_cases h1 : i = n
    · subst h1; rw [hb]; simp
    · rw [ih (by omega) hb]; rfl
theorem r_poset_acyclic (b n : Nat) (r : List Nat) (hr : r.length = n) (hn : n ≤ 24) (hs : Sm r) (h : AH) (hb : h.blk b = some (u32s r)) :
    RCall Try.prog n_poset_acyclic [.msl b 0 n (some n)] h (.bool (acI r n)) := by
  refine RCall.of hm cF_poset_acyclic (by simp [g_poset_acyclic]) fun hw h' hl => ?_
  have hb' := hl.1 _ _ hb
  simp only [F_poset_acyclic, g_poset_acyclic, go_sem, reduceIte, Nat.reduceEqDiff, Nat.reduceAdd, Nat.reduceMul, Nat.reduceSub, reduceCtorEq, Nat.reduceLeDiff, Nat.reduceLT, Int.reduceLT, Int.reduceLE, Int.reduceToNat, Int.reduceAdd, Int.reduceSub, Int.reduceNeg, Int.reduceMul, Int.reduceEq, ← Bool.decide_and, ← Bool.decide_or, ↓tq_n, ↓tq_e, ↓tq_r, ↓bq_n, ↓bq_e, ↓bq_r, ↓rq_n, ↓rq_r, ↓rq_e]
  refine awp_loop (fun i : Nat => [(5, .msl b 0 n (some n)), (6, I n), (7, I i)]) (fun _ => h') (fun i => i ≤ n ∧ acI r i = true) (fun i => n - i) 0 ⟨Nat.zero_le _, rfl⟩ (GStep.forget (by repeat' first | exact EnvLe.nil _ | refine EnvLe.cons (AV.le.of_eq rfl) ?_ | refine EnvLe.cons (AV.le.undef _) ?_ | refine EnvLe.cons AV.le.unk ?_) (by repeat' first | exact AH.le.refl _ | assumption | (refine AH.le_put ?_ (by first | assumption | exact (AH.blk_put_ne _ _ (by assumption)).trans (by assumption) | exact AH.none_put (by assumption) | exact AH.none_put (AH.none_put (by assumption)) | (simp only [AH.blk_setTok, AH.tok_put] at *; first | assumption | exact AH.none_put (by assumption)))) | (refine AH.le_setTok ?_ (by first | assumption | exact (AH.blk_put_ne _ _ (by assumption)).trans (by assumption) | exact AH.none_put (by assumption) | exact AH.none_put (AH.none_put (by assumption)) | (simp only [AH.blk_setTok, AH.tok_put] at *; first | assumption | exact AH.none_put (by assumption)))) | (refine AH.le_putM ?_ (by first | assumption | exact (AH.mp_putM_ne _ _ (by assumption)).trans (by assumption) | (simp only [AH.mp_put, AH.mp_setTok] at *; assumption))))) fun i hi => .of_vg hm ?_
  obtain ⟨hi, ha⟩ := hi
  by_cases h5 : i < n
  · have hc : (i : Int) < (n : Int) := by omega
    simp only [hc, hb', u32s_drop (l := r) (i := i) (by omega), F_poset_acyclic, g_poset_acyclic, go_sem, reduceIte, Nat.reduceEqDiff, Nat.reduceAdd, Nat.reduceMul, Nat.reduceSub, reduceCtorEq, Nat.reduceLeDiff, Nat.reduceLT, Int.reduceLT, Int.reduceLE, Int.reduceToNat, Int.reduceAdd, Int.reduceSub, Int.reduceNeg, Int.reduceMul, Int.reduceEq, ← Bool.decide_and, ← Bool.decide_or, ↓tq_n, ↓tq_e, ↓tq_r, ↓bq_n, ↓bq_e, ↓bq_r, ↓rq_n, ↓rq_r, ↓rq_e]
    refine CallG.mk (r_poset_has (hs i) (by omega) _) ?_
    by_cases h7 : (r.getD i 0).testBit i = true
    · simp only [h7, F_poset_acyclic, g_poset_acyclic, go_sem, reduceIte, Nat.reduceEqDiff, Nat.reduceAdd, Nat.reduceMul, Nat.reduceSub, reduceCtorEq, Nat.reduceLeDiff, Nat.reduceLT, Int.reduceLT, Int.reduceLE, Int.reduceToNat, Int.reduceAdd, Int.reduceSub, Int.reduceNeg, Int.reduceMul, Int.reduceEq, ← Bool.decide_and, ← Bool.decide_or, ↓tq_n, ↓tq_e, ↓tq_r, ↓bq_n, ↓bq_e, ↓bq_r, ↓rq_n, ↓rq_r, ↓rq_e]
      exact ret_ok (by rw [acI_false h5 h7])
    · simp only [h7, F_poset_acyclic, g_poset_acyclic, go_sem, reduceIte, Nat.reduceEqDiff, Nat.reduceAdd, Nat.reduceMul, Nat.reduceSub, reduceCtorEq, Nat.reduceLeDiff, Nat.reduceLT, Int.reduceLT, Int.reduceLE, Int.reduceToNat, Int.reduceAdd, Int.reduceSub, Int.reduceNeg, Int.reduceMul, Int.reduceEq, ← Bool.decide_and, ← Bool.decide_or, ↓tq_n, ↓tq_e, ↓tq_r, ↓bq_n, ↓bq_e, ↓bq_r, ↓rq_n, ↓rq_r, ↓rq_e]
      refine ⟨by rw [inR64]; omega, i + 1, ⟨by omega, ?_⟩, by omega, (GStep.forget (by repeat' first | exact EnvLe.nil _ | refine EnvLe.cons (AV.le.of_eq rfl) ?_ | refine EnvLe.cons (AV.le.undef _) ?_ | refine EnvLe.cons AV.le.unk ?_) (by repeat' first | exact AH.le.refl _ | assumption | (refine AH.le_put ?_ (by first | assumption | exact (AH.blk_put_ne _ _ (by assumption)).trans (by assumption) | exact AH.none_put (by assumption) | exact AH.none_put (AH.none_put (by assumption)) | (simp only [AH.blk_setTok, AH.tok_put] at *; first | assumption | exact AH.none_put (by assumption)))) | (refine AH.le_setTok ?_ (by first | assumption | exact (AH.blk_put_ne _ _ (by assumption)).trans (by assumption) | exact AH.none_put (by assumption) | exact AH.none_put (AH.none_put (by assumption)) | (simp only [AH.blk_setTok, AH.tok_put] at *; first | assumption | exact AH.none_put (by assumption)))) | (refine AH.le_putM ?_ (by first | assumption | exact (AH.mp_putM_ne _ _ (by assumption)).trans (by assumption) | (simp only [AH.mp_put, AH.mp_setTok] at *; assumption)))))⟩
      rw [acI, ha]
      rw [show bt r i i = false from Bool.eq_false_iff.2 h7]
      rfl
  have h5 : i = n := by omega
  subst h5
  simp only [F_poset_acyclic, g_poset_acyclic, go_sem, reduceIte, Nat.reduceEqDiff, Nat.reduceAdd, Nat.reduceMul, Nat.reduceSub, reduceCtorEq, Nat.reduceLeDiff, Nat.reduceLT, Int.reduceLT, Int.reduceLE, Int.reduceToNat, Int.reduceAdd, Int.reduceSub, Int.reduceNeg, Int.reduceMul, Int.reduceEq, ← Bool.decide_and, ← Bool.decide_or, ↓tq_n, ↓tq_e, ↓tq_r, ↓bq_n, ↓bq_e, ↓bq_r, ↓rq_n, ↓rq_r, ↓rq_e]
  exact ret_ok (by simp [ha])
theorem lsK_len (r : List Nat) (i k : Nat) : (lsK r i k).length ≤ k := by
  induction k with
  | zero => simp [lsK]
  | succ k ih => unfold lsK; rw [List.length_append]; split <;> simp <;> omega
theorem lsI_len (r : List Nat) (i : Nat) : (lsI r i).length ≤ i * r.length := by
  induction i with
  | zero => simp [lsI]
  | succ i ih => have := lsK_len r i r.length; unfold lsI; rw [List.length_append, Nat.add_mul, Nat.one_mul]; omega
theorem r_poset_list (b n : Nat) (r : List Nat) (hr : r.length = n) (hn : n ≤ 24) (hs : Sm r) (h : AH) (hb : h.blk b = some (u32s r)) :
    RCall Try.prog n_poset_list [.msl b 0 n (some n)] h (gl (prs (lsI r n)) (lsI r n).length .unk) := by
  refine RCall.of hm cF_poset_list (by simp [g_poset_list]) fun hw h' hl => ?_
  have hb' := hl.1 _ _ hb
  simp only [F_poset_list, g_poset_list, go_sem, reduceIte, Nat.reduceEqDiff, Nat.reduceAdd, Nat.reduceMul, Nat.reduceSub, reduceCtorEq, Nat.reduceLeDiff, Nat.reduceLT, Int.reduceLT, Int.reduceLE, Int.reduceToNat, Int.reduceAdd, Int.reduceSub, Int.reduceNeg, Int.reduceMul, Int.reduceEq, ← Bool.decide_and, ← Bool.decide_or, ↓tq_n, ↓tq_e, ↓tq_r, ↓bq_n, ↓bq_e, ↓bq_r, ↓rq_n, ↓rq_r, ↓rq_e]
  refine awp_tok 3 2 (nl := true) (n := 0) (cs := []) rfl fun tk ht => ?_
  refine awp_loop (fun i : Nat => [(0, .msl b 0 n (some n)), (3, gl (prs (lsI r i)) (lsI r i).length (.tok tk)), (7, .msl b 0 n (some n)), (8, I n), (9, I i)]) (fun i => h'.setTok tk (lsI r i).length 2) (fun i => i ≤ n) (fun i => n - i) 0 (Nat.zero_le _) (GStep.forget (by repeat' first | exact EnvLe.nil _ | refine EnvLe.cons (AV.le.of_eq rfl) ?_ | refine EnvLe.cons (AV.le.undef _) ?_ | refine EnvLe.cons AV.le.unk ?_) (by repeat' first | exact AH.le.refl _ | assumption | (refine AH.le_put ?_ (by first | assumption | exact (AH.blk_put_ne _ _ (by assumption)).trans (by assumption) | exact AH.none_put (by assumption) | exact AH.none_put (AH.none_put (by assumption)) | (simp only [AH.blk_setTok, AH.tok_put] at *; first | assumption | exact AH.none_put (by assumption)))) | (refine AH.le_setTok ?_ (by first | assumption | exact (AH.blk_put_ne _ _ (by assumption)).trans (by assumption) | exact AH.none_put (by assumption) | exact AH.none_put (AH.none_put (by assumption)) | (simp only [AH.blk_setTok, AH.tok_put] at *; first | assumption | exact AH.none_put (by assumption)))) | (refine AH.le_putM ?_ (by first | assumption | exact (AH.mp_putM_ne _ _ (by assumption)).trans (by assumption) | (simp only [AH.mp_put, AH.mp_setTok] at *; assumption))))) fun i hi => .of_vg hm ?_
  by_cases h5 : i < n
  · have hc : (i : Int) < (n : Int) := by omega
    have hil := lsI_len r i
    have h64 : i * r.length ≤ 24 * 24 := Nat.mul_le_mul (by omega) (by omega)
    simp only [hc, hb', u32s_drop (l := r) (i := i) (by omega), F_poset_list, g_poset_list, go_sem, reduceIte, Nat.reduceEqDiff, Nat.reduceAdd, Nat.reduceMul, Nat.reduceSub, reduceCtorEq, Nat.reduceLeDiff, Nat.reduceLT, Int.reduceLT, Int.reduceLE, Int.reduceToNat, Int.reduceAdd, Int.reduceSub, Int.reduceNeg, Int.reduceMul, Int.reduceEq, ← Bool.decide_and, ← Bool.decide_or, ↓tq_n, ↓tq_e, ↓tq_r, ↓bq_n, ↓bq_e, ↓bq_r, ↓rq_n, ↓rq_r, ↓rq_e]
    refine awp_loop (fun k : Nat => [(0, .msl b 0 n (some n)), (3, gl (prs (lsI r i ++ lsK r i k)) (lsI r i ++ lsK r i k).length (.tok tk)), (4, I i), (5, .int .u32 (r.getD i 0 : Nat)), (7, .msl b 0 n (some n)), (8, I n), (9, I i), (15, I n), (16, I k)]) (fun k => h'.setTok tk (lsI r i ++ lsK r i k).length 2) (fun k => k ≤ n) (fun k => n - k) 0 (Nat.zero_le _) (by simp only [lsK, List.append_nil]; exact (GStep.forget (by repeat' first | exact EnvLe.nil _ | refine EnvLe.cons (AV.le.of_eq rfl) ?_ | refine EnvLe.cons (AV.le.undef _) ?_ | refine EnvLe.cons AV.le.unk ?_) (by repeat' first | exact AH.le.refl _ | assumption | (refine AH.le_put ?_ (by first | assumption | exact (AH.blk_put_ne _ _ (by assumption)).trans (by assumption) | exact AH.none_put (by assumption) | exact AH.none_put (AH.none_put (by assumption)) | (simp only [AH.blk_setTok, AH.tok_put] at *; first | assumption | exact AH.none_put (by assumption)))) | (refine AH.le_setTok ?_ (by first | assumption | exact (AH.blk_put_ne _ _ (by assumption)).trans (by assumption) | exact AH.none_put (by assumption) | exact AH.none_put (AH.none_put (by assumption)) | (simp only [AH.blk_setTok, AH.tok_put] at *; first | assumption | exact AH.none_put (by assumption)))) | (refine AH.le_putM ?_ (by first | assumption | exact (AH.mp_putM_ne _ _ (by assumption)).trans (by assumption) | (simp only [AH.mp_put, AH.mp_setTok] at *; assumption)))))) fun k hk => .of_vg hm ?_
    by_cases h6 : k < n
    · have hc2 : (k : Int) < (n : Int) := by omega
      have hkl := lsK_len r i k
      have hlen : (lsI r i ++ lsK r i k).length ≤ 1000 := by rw [List.length_append]; omega
      by_cases h7 : i = k
      · subst h7
        have e1 : lsK r i (i + 1) = lsK r i i := by rw [lsK, if_neg (fun hh => hh.1 rfl), List.append_nil]
        simp only [hc2, F_poset_list, g_poset_list, go_sem, reduceIte, Nat.reduceEqDiff, Nat.reduceAdd, Nat.reduceMul, Nat.reduceSub, reduceCtorEq, Nat.reduceLeDiff, Nat.reduceLT, Int.reduceLT, Int.reduceLE, Int.reduceToNat, Int.reduceAdd, Int.reduceSub, Int.reduceNeg, Int.reduceMul, Int.reduceEq, ← Bool.decide_and, ← Bool.decide_or, ↓tq_n, ↓tq_e, ↓tq_r, ↓bq_n, ↓bq_e, ↓bq_r, ↓rq_n, ↓rq_r, ↓rq_e]
        refine ⟨by rw [inR64]; omega, i + 1, by omega, by omega, ?_⟩
        rw [e1]
        exact (GStep.forget (by repeat' first | exact EnvLe.nil _ | refine EnvLe.cons (AV.le.of_eq rfl) ?_ | refine EnvLe.cons (AV.le.undef _) ?_ | refine EnvLe.cons AV.le.unk ?_) (by repeat' first | exact AH.le.refl _ | assumption | (refine AH.le_put ?_ (by first | assumption | exact (AH.blk_put_ne _ _ (by assumption)).trans (by assumption) | exact AH.none_put (by assumption) | exact AH.none_put (AH.none_put (by assumption)) | (simp only [AH.blk_setTok, AH.tok_put] at *; first | assumption | exact AH.none_put (by assumption)))) | (refine AH.le_setTok ?_ (by first | assumption | exact (AH.blk_put_ne _ _ (by assumption)).trans (by assumption) | exact AH.none_put (by assumption) | exact AH.none_put (AH.none_put (by assumption)) | (simp only [AH.blk_setTok, AH.tok_put] at *; first | assumption | exact AH.none_put (by assumption)))) | (refine AH.le_putM ?_ (by first | assumption | exact (AH.mp_putM_ne _ _ (by assumption)).trans (by assumption) | (simp only [AH.mp_put, AH.mp_setTok] at *; assumption)))))
      have h7' : ¬ (i : Int) = (k : Int) := by omega
      simp only [hc2, h7', F_poset_list, g_poset_list, go_sem, reduceIte, Nat.reduceEqDiff, Nat.reduceAdd, Nat.reduceMul, Nat.reduceSub, reduceCtorEq, Nat.reduceLeDiff, Nat.reduceLT, Int.reduceLT, Int.reduceLE, Int.reduceToNat, Int.reduceAdd, Int.reduceSub, Int.reduceNeg, Int.reduceMul, Int.reduceEq, ← Bool.decide_and, ← Bool.decide_or, ↓tq_n, ↓tq_e, ↓tq_r, ↓bq_n, ↓bq_e, ↓bq_r, ↓rq_n, ↓rq_r, ↓rq_e]
      refine CallG.mk (r_poset_has (hs i) (by omega) _) ?_
      by_cases h8 : (r.getD i 0).testBit k = true
      · have e1 : lsK r i (k + 1) = lsK r i k ++ [((i : Int), (k : Int))] := by rw [lsK, if_pos ⟨h7, h8⟩]
        simp only [h8, F_poset_list, g_poset_list, go_sem, reduceIte, Nat.reduceEqDiff, Nat.reduceAdd, Nat.reduceMul, Nat.reduceSub, reduceCtorEq, Nat.reduceLeDiff, Nat.reduceLT, Int.reduceLT, Int.reduceLE, Int.reduceToNat, Int.reduceAdd, Int.reduceSub, Int.reduceNeg, Int.reduceMul, Int.reduceEq, ← Bool.decide_and, ← Bool.decide_or, ↓tq_n, ↓tq_e, ↓tq_r, ↓bq_n, ↓bq_e, ↓bq_r, ↓rq_n, ↓rq_r, ↓rq_e]
        refine ⟨prs_len _, by omega, by omega, by rw [inR64]; omega, k + 1, by omega, by omega, ?_⟩
        simp only [e1, ← List.append_assoc, prs_append, prs_one, List.length_append, List.length_cons, List.length_nil, ← Nat.add_assoc]
        exact (GStep.forget (by repeat' first | exact EnvLe.nil _ | refine EnvLe.cons (AV.le.of_eq rfl) ?_ | refine EnvLe.cons (AV.le.undef _) ?_ | refine EnvLe.cons AV.le.unk ?_) (by repeat' first | exact AH.le.refl _ | assumption | (refine AH.le_put ?_ (by first | assumption | exact (AH.blk_put_ne _ _ (by assumption)).trans (by assumption) | exact AH.none_put (by assumption) | exact AH.none_put (AH.none_put (by assumption)) | (simp only [AH.blk_setTok, AH.tok_put] at *; first | assumption | exact AH.none_put (by assumption)))) | (refine AH.le_setTok ?_ (by first | assumption | exact (AH.blk_put_ne _ _ (by assumption)).trans (by assumption) | exact AH.none_put (by assumption) | exact AH.none_put (AH.none_put (by assumption)) | (simp only [AH.blk_setTok, AH.tok_put] at *; first | assumption | exact AH.none_put (by assumption)))) | (refine AH.le_putM ?_ (by first | assumption | exact (AH.mp_putM_ne _ _ (by assumption)).trans (by assumption) | (simp only [AH.mp_put, AH.mp_setTok] at *; assumption)))))
      · have e1 : lsK r i (k + 1) = lsK r i k := by rw [lsK, if_neg (fun hh => h8 hh.2), List.append_nil]
        simp only [h8, F_poset_list, g_poset_list, go_sem, reduceIte, Nat.reduceEqDiff, Nat.reduceAdd, Nat.reduceMul, Nat.reduceSub, reduceCtorEq, Nat.reduceLeDiff, Nat.reduceLT, Int.reduceLT, Int.reduceLE, Int.reduceToNat, Int.reduceAdd, Int.reduceSub, Int.reduceNeg, Int.reduceMul, Int.reduceEq, ← Bool.decide_and, ← Bool.decide_or, ↓tq_n, ↓tq_e, ↓tq_r, ↓bq_n, ↓bq_e, ↓bq_r, ↓rq_n, ↓rq_r, ↓rq_e]
        refine ⟨by rw [inR64]; omega, k + 1, by omega, by omega, ?_⟩
        rw [e1]
        exact (GStep.forget (by repeat' first | exact EnvLe.nil _ | refine EnvLe.cons (AV.le.of_eq rfl) ?_ | refine EnvLe.cons (AV.le.undef _) ?_ | refine EnvLe.cons AV.le.unk ?_) (by repeat' first | exact AH.le.refl _ | assumption | (refine AH.le_put ?_ (by first | assumption | exact (AH.blk_put_ne _ _ (by assumption)).trans (by assumption) | exact AH.none_put (by assumption) | exact AH.none_put (AH.none_put (by assumption)) | (simp only [AH.blk_setTok, AH.tok_put] at *; first | assumption | exact AH.none_put (by assumption)))) | (refine AH.le_setTok ?_ (by first | assumption | exact (AH.blk_put_ne _ _ (by assumption)).trans (by assumption) | exact AH.none_put (by assumption) | exact AH.none_put (AH.none_put (by assumption)) | (simp only [AH.blk_setTok, AH.tok_put] at *; first | assumption | exact AH.none_put (by assumption)))) | (refine AH.le_putM ?_ (by first | assumption | exact (AH.mp_putM_ne _ _ (by assumption)).trans (by assumption) | (simp only [AH.mp_put, AH.mp_setTok] at *; assumption)))))
    have h6 : k = n := by omega
    subst h6
    simp only [F_poset_list, g_poset_list, go_sem, reduceIte, Nat.reduceEqDiff, Nat.reduceAdd, Nat.reduceMul, Nat.reduceSub, reduceCtorEq, Nat.reduceLeDiff, Nat.reduceLT, Int.reduceLT, Int.reduceLE, Int.reduceToNat, Int.reduceAdd, Int.reduceSub, Int.reduceNeg, Int.reduceMul, Int.reduceEq, ← Bool.decide_and, ← Bool.decide_or, ↓tq_n, ↓tq_e, ↓tq_r, ↓bq_n, ↓bq_e, ↓bq_r, ↓rq_n, ↓rq_r, ↓rq_e]
    refine ⟨by rw [inR64]; omega, i + 1, by omega, by omega, ?_⟩
    rw [show lsI r (i + 1) = lsI r i ++ lsK r i k by rw [lsI, hr]]
    exact (GStep.forget (by repeat' first | exact EnvLe.nil _ | refine EnvLe.cons (AV.le.of_eq rfl) ?_ | refine EnvLe.cons (AV.le.undef _) ?_ | refine EnvLe.cons AV.le.unk ?_) (by repeat' first | exact AH.le.refl _ | assumption | (refine AH.le_put ?_ (by first | assumption | exact (AH.blk_put_ne _ _ (by assumption)).trans (by assumption) | exact AH.none_put (by assumption) | exact AH.none_put (AH.none_put (by assumption)) | (simp only [AH.blk_setTok, AH.tok_put] at *; first | assumption | exact AH.none_put (by assumption)))) | (refine AH.le_setTok ?_ (by first | assumption | exact (AH.blk_put_ne _ _ (by assumption)).trans (by assumption) | exact AH.none_put (by assumption) | exact AH.none_put (AH.none_put (by assumption)) | (simp only [AH.blk_setTok, AH.tok_put] at *; first | assumption | exact AH.none_put (by assumption)))) | (refine AH.le_putM ?_ (by first | assumption | exact (AH.mp_putM_ne _ _ (by assumption)).trans (by assumption) | (simp only [AH.mp_put, AH.mp_setTok] at *; assumption)))))
  have h5 : i = n := by omega
  subst h5
  simp only [F_poset_list, g_poset_list, go_sem, reduceIte, Nat.reduceEqDiff, Nat.reduceAdd, Nat.reduceMul, Nat.reduceSub, reduceCtorEq, Nat.reduceLeDiff, Nat.reduceLT, Int.reduceLT, Int.reduceLE, Int.reduceToNat, Int.reduceAdd, Int.reduceSub, Int.reduceNeg, Int.reduceMul, Int.reduceEq, ← Bool.decide_and, ← Bool.decide_or, ↓tq_n, ↓tq_e, ↓tq_r, ↓bq_n, ↓bq_e, ↓bq_r, ↓rq_n, ↓rq_r, ↓rq_e]
  exact ret_le (AH.le_setTok (.refl _) ht) AV.le.glU
end Go.Proofs.Ytndcbompcnlhmaa
namespace Go.Proofs.Ytndcbompcnlhmaa
open Go Go.Abs
set_option linter.unusedSimpArgs false
set_option linter.unusedVariables false
set_option maxRecDepth 20000

/-- One arc of a digraph, and that it comes after the one before. -/
def DgA (n : Int) (a : List (Int × Int)) (i : Nat) : Prop :=
  (0 ≤ (a.getD i (0, 0)).1 ∧ (a.getD i (0, 0)).1 < n ∧ 0 ≤ (a.getD i (0, 0)).2 ∧ (a.getD i (0, 0)).2 < n ∧ (a.getD i (0, 0)).1 ≠ (a.getD i (0, 0)).2) ∧
  (0 < i → (a.getD (i - 1) (0, 0)).1 < (a.getD i (0, 0)).1 ∨ (a.getD (i - 1) (0, 0)).1 = (a.getD i (0, 0)).1 ∧ (a.getD (i - 1) (0, 0)).2 < (a.getD i (0, 0)).2)
instance (n : Int) (a : List (Int × Int)) (i : Nat) : Decidable (DgA n a i) := by unfold DgA; infer_instance
def Dg (n : Int) (a : List (Int × Int)) : Prop := 0 ≤ n ∧ n ≤ 24 ∧ ∀ i, i < a.length → DgA n a i
instance (n : Int) (a : List (Int × Int)) : Decidable (Dg n a) := by unfold Dg; infer_instance
set_option maxHeartbeats 2000000 in
theorem r_poset_Valid (n : Int) (nl : Bool) (a : List (Int × Int)) (tl : Tail) (h : AH) : RCall Try.prog n_poset_Valid [I n, .sl nl a.length (prs a) tl] h (.bool (decide (Dg n a))) := by
  refine RCall.of hm cF_poset_Valid (by simp [g_poset_Valid]) fun hw h' hl => ?_
  have hx := wf_len (hw _ (.tail _ (.head _)))
  by_cases h0 : n < 0
  · simp only [h0, F_poset_Valid, g_poset_Valid, go_sem, reduceIte, Nat.reduceEqDiff, Nat.reduceAdd, Nat.reduceMul, Nat.reduceSub, reduceCtorEq, Nat.reduceLeDiff, Nat.reduceLT, Int.reduceLT, Int.reduceLE, Int.reduceToNat, Int.reduceAdd, Int.reduceSub, Int.reduceNeg, Int.reduceMul, Int.reduceEq, ← Bool.decide_and, ← Bool.decide_or, ↓tq_n, ↓tq_e, ↓tq_r, ↓bq_n, ↓bq_e, ↓bq_r, ↓rq_n, ↓rq_r, ↓rq_e]
    exact ret_ok (by rw [decide_eq_false (fun hh => by have := hh.1; omega)])
  by_cases h1 : 24 < n
  · simp only [h0, h1, F_poset_Valid, g_poset_Valid, go_sem, reduceIte, Nat.reduceEqDiff, Nat.reduceAdd, Nat.reduceMul, Nat.reduceSub, reduceCtorEq, Nat.reduceLeDiff, Nat.reduceLT, Int.reduceLT, Int.reduceLE, Int.reduceToNat, Int.reduceAdd, Int.reduceSub, Int.reduceNeg, Int.reduceMul, Int.reduceEq, ← Bool.decide_and, ← Bool.decide_or, ↓tq_n, ↓tq_e, ↓tq_r, ↓bq_n, ↓bq_e, ↓bq_r, ↓rq_n, ↓rq_r, ↓rq_e]
    exact ret_ok (by rw [decide_eq_false (fun hh => by have := hh.2.1; omega)])
  simp only [h0, h1, F_poset_Valid, g_poset_Valid, go_sem, reduceIte, Nat.reduceEqDiff, Nat.reduceAdd, Nat.reduceMul, Nat.reduceSub, reduceCtorEq, Nat.reduceLeDiff, Nat.reduceLT, Int.reduceLT, Int.reduceLE, Int.reduceToNat, Int.reduceAdd, Int.reduceSub, Int.reduceNeg, Int.reduceMul, Int.reduceEq, ← Bool.decide_and, ← Bool.decide_or, ↓tq_n, ↓tq_e, ↓tq_r, ↓bq_n, ↓bq_e, ↓bq_r, ↓rq_n, ↓rq_r, ↓rq_e]
  refine awp_loop (fun i : Nat => [(0, I n), (1, .sl nl a.length (prs a) tl), (13, .sl nl a.length (prs a) tl), (14, I a.length), (15, I i)]) (fun _ => h') (fun i => i ≤ a.length ∧ ∀ j, j < i → DgA n a j) (fun i => a.length - i) 0 ⟨Nat.zero_le _, fun j hj => by omega⟩ (GStep.forget (by repeat' first | exact EnvLe.nil _ | refine EnvLe.cons (AV.le.of_eq rfl) ?_ | refine EnvLe.cons (AV.le.undef _) ?_ | refine EnvLe.cons AV.le.unk ?_) (by repeat' first | exact AH.le.refl _ | assumption | (refine AH.le_put ?_ (by first | assumption | exact (AH.blk_put_ne _ _ (by assumption)).trans (by assumption) | exact AH.none_put (by assumption) | exact AH.none_put (AH.none_put (by assumption)) | (simp only [AH.blk_setTok, AH.tok_put] at *; first | assumption | exact AH.none_put (by assumption)))) | (refine AH.le_setTok ?_ (by first | assumption | exact (AH.blk_put_ne _ _ (by assumption)).trans (by assumption) | exact AH.none_put (by assumption) | exact AH.none_put (AH.none_put (by assumption)) | (simp only [AH.blk_setTok, AH.tok_put] at *; first | assumption | exact AH.none_put (by assumption)))) | (refine AH.le_putM ?_ (by first | assumption | exact (AH.mp_putM_ne _ _ (by assumption)).trans (by assumption) | (simp only [AH.mp_put, AH.mp_setTok] at *; assumption))))) fun i hi => .of_vg hm ?_
  obtain ⟨hi, ha⟩ := hi
  by_cases h5 : i < a.length
  · have hc : (i : Int) < (a.length : Int) := by omega
    by_cases h6 : 0 ≤ (a.getD i (0, 0)).1 ∧ (a.getD i (0, 0)).1 < n ∧ 0 ≤ (a.getD i (0, 0)).2 ∧ (a.getD i (0, 0)).2 < n ∧ (a.getD i (0, 0)).1 ≠ (a.getD i (0, 0)).2
    · have k1 : ¬ (a.getD i (0, 0)).1 < 0 := by omega
      have k2 : ¬ n ≤ (a.getD i (0, 0)).1 := by omega
      have k3 : ¬ (a.getD i (0, 0)).2 < 0 := by omega
      have k4 : ¬ n ≤ (a.getD i (0, 0)).2 := by omega
      have k5 := h6.2.2.2.2
      by_cases h7 : i = 0
      · subst h7
        simp only [hc, prs_drop h5, k1, k2, k3, k4, k5, F_poset_Valid, g_poset_Valid, go_sem, reduceIte, Nat.reduceEqDiff, Nat.reduceAdd, Nat.reduceMul, Nat.reduceSub, reduceCtorEq, Nat.reduceLeDiff, Nat.reduceLT, Int.reduceLT, Int.reduceLE, Int.reduceToNat, Int.reduceAdd, Int.reduceSub, Int.reduceNeg, Int.reduceMul, Int.reduceEq, ← Bool.decide_and, ← Bool.decide_or, ↓tq_n, ↓tq_e, ↓tq_r, ↓bq_n, ↓bq_e, ↓bq_r, ↓rq_n, ↓rq_r, ↓rq_e]
        refine ⟨fun hh => by omega, fun _ => ⟨by rw [inR64]; omega, 1, ⟨by omega, fun j hj => by rw [show j = 0 by omega]; exact ⟨h6, fun hh => by omega⟩⟩, by omega, (GStep.forget (by repeat' first | exact EnvLe.nil _ | refine EnvLe.cons (AV.le.of_eq rfl) ?_ | refine EnvLe.cons (AV.le.undef _) ?_ | refine EnvLe.cons AV.le.unk ?_) (by repeat' first | exact AH.le.refl _ | assumption | (refine AH.le_put ?_ (by first | assumption | exact (AH.blk_put_ne _ _ (by assumption)).trans (by assumption) | exact AH.none_put (by assumption) | exact AH.none_put (AH.none_put (by assumption)) | (simp only [AH.blk_setTok, AH.tok_put] at *; first | assumption | exact AH.none_put (by assumption)))) | (refine AH.le_setTok ?_ (by first | assumption | exact (AH.blk_put_ne _ _ (by assumption)).trans (by assumption) | exact AH.none_put (by assumption) | exact AH.none_put (AH.none_put (by assumption)) | (simp only [AH.blk_setTok, AH.tok_put] at *; first | assumption | exact AH.none_put (by assumption)))) | (refine AH.le_putM ?_ (by first | assumption | exact (AH.mp_putM_ne _ _ (by assumption)).trans (by assumption) | (simp only [AH.mp_put, AH.mp_setTok] at *; assumption)))))⟩⟩
      have h8 : (0 : Int) < (i : Int) := by omega
      have e8 : ((i : Int) - 1).toNat = i - 1 := by omega
      have h9 : i - 1 < a.length := by omega
      have hr1 : InR .i64 ((i : Int) - 1) := by rw [inR64]; omega
      have hr2 : (0 : Int) ≤ (i : Int) - 1 := by omega
      have hr3 : (i : Int) - 1 < (a.length : Int) := by omega
      by_cases k6 : (a.getD (i - 1) (0, 0)).1 < (a.getD i (0, 0)).1 ∨ (a.getD (i - 1) (0, 0)).1 = (a.getD i (0, 0)).1 ∧ (a.getD (i - 1) (0, 0)).2 < (a.getD i (0, 0)).2
      · have hstep : ∀ j, j < i + 1 → DgA n a j := all_succ ha ⟨h6, fun _ => k6⟩
        have k7 : ¬ (a.getD i (0, 0)).1 < (a.getD (i - 1) (0, 0)).1 := by omega
        by_cases k8 : (a.getD i (0, 0)).1 = (a.getD (i - 1) (0, 0)).1
        · have k8' : decide ((a.getD i (0, 0)).1 = (a.getD (i - 1) (0, 0)).1) = true := decide_eq_true k8
          have k9 : ¬ (a.getD i (0, 0)).2 ≤ (a.getD (i - 1) (0, 0)).2 := by omega
          simp only [hc, prs_drop h5, k1, k2, k3, k4, k5, h8, e8, hr1, hr2, hr3, prs_drop h9, k7, k8', k9, F_poset_Valid, g_poset_Valid, go_sem, reduceIte, Nat.reduceEqDiff, Nat.reduceAdd, Nat.reduceMul, Nat.reduceSub, reduceCtorEq, Nat.reduceLeDiff, Nat.reduceLT, Int.reduceLT, Int.reduceLE, Int.reduceToNat, Int.reduceAdd, Int.reduceSub, Int.reduceNeg, Int.reduceMul, Int.reduceEq, ← Bool.decide_and, ← Bool.decide_or, ↓tq_n, ↓tq_e, ↓tq_r, ↓bq_n, ↓bq_e, ↓bq_r, ↓rq_n, ↓rq_r, ↓rq_e]
          exact ⟨by rw [inR64]; omega, i + 1, ⟨by omega, hstep⟩, by omega, (GStep.forget (by repeat' first | exact EnvLe.nil _ | refine EnvLe.cons (AV.le.of_eq rfl) ?_ | refine EnvLe.cons (AV.le.undef _) ?_ | refine EnvLe.cons AV.le.unk ?_) (by repeat' first | exact AH.le.refl _ | assumption | (refine AH.le_put ?_ (by first | assumption | exact (AH.blk_put_ne _ _ (by assumption)).trans (by assumption) | exact AH.none_put (by assumption) | exact AH.none_put (AH.none_put (by assumption)) | (simp only [AH.blk_setTok, AH.tok_put] at *; first | assumption | exact AH.none_put (by assumption)))) | (refine AH.le_setTok ?_ (by first | assumption | exact (AH.blk_put_ne _ _ (by assumption)).trans (by assumption) | exact AH.none_put (by assumption) | exact AH.none_put (AH.none_put (by assumption)) | (simp only [AH.blk_setTok, AH.tok_put] at *; first | assumption | exact AH.none_put (by assumption)))) | (refine AH.le_putM ?_ (by first | assumption | exact (AH.mp_putM_ne _ _ (by assumption)).trans (by assumption) | (simp only [AH.mp_put, AH.mp_setTok] at *; assumption)))))⟩
        · simp only [hc, prs_drop h5, k1, k2, k3, k4, k5, h8, e8, hr1, hr2, hr3, prs_drop h9, k7, k8, F_poset_Valid, g_poset_Valid, go_sem, reduceIte, Nat.reduceEqDiff, Nat.reduceAdd, Nat.reduceMul, Nat.reduceSub, reduceCtorEq, Nat.reduceLeDiff, Nat.reduceLT, Int.reduceLT, Int.reduceLE, Int.reduceToNat, Int.reduceAdd, Int.reduceSub, Int.reduceNeg, Int.reduceMul, Int.reduceEq, ← Bool.decide_and, ← Bool.decide_or, ↓tq_n, ↓tq_e, ↓tq_r, ↓bq_n, ↓bq_e, ↓bq_r, ↓rq_n, ↓rq_r, ↓rq_e]
          exact ⟨by rw [inR64]; omega, i + 1, ⟨by omega, hstep⟩, by omega, (GStep.forget (by repeat' first | exact EnvLe.nil _ | refine EnvLe.cons (AV.le.of_eq rfl) ?_ | refine EnvLe.cons (AV.le.undef _) ?_ | refine EnvLe.cons AV.le.unk ?_) (by repeat' first | exact AH.le.refl _ | assumption | (refine AH.le_put ?_ (by first | assumption | exact (AH.blk_put_ne _ _ (by assumption)).trans (by assumption) | exact AH.none_put (by assumption) | exact AH.none_put (AH.none_put (by assumption)) | (simp only [AH.blk_setTok, AH.tok_put] at *; first | assumption | exact AH.none_put (by assumption)))) | (refine AH.le_setTok ?_ (by first | assumption | exact (AH.blk_put_ne _ _ (by assumption)).trans (by assumption) | exact AH.none_put (by assumption) | exact AH.none_put (AH.none_put (by assumption)) | (simp only [AH.blk_setTok, AH.tok_put] at *; first | assumption | exact AH.none_put (by assumption)))) | (refine AH.le_putM ?_ (by first | assumption | exact (AH.mp_putM_ne _ _ (by assumption)).trans (by assumption) | (simp only [AH.mp_put, AH.mp_setTok] at *; assumption)))))⟩
      · have no : decide (Dg n a) = false := decide_eq_false fun hh => k6 ((hh.2.2 i h5).2 (by omega))
        by_cases k7 : (a.getD i (0, 0)).1 < (a.getD (i - 1) (0, 0)).1
        · simp only [hc, prs_drop h5, k1, k2, k3, k4, k5, h8, e8, hr1, hr2, hr3, prs_drop h9, k7, F_poset_Valid, g_poset_Valid, go_sem, reduceIte, Nat.reduceEqDiff, Nat.reduceAdd, Nat.reduceMul, Nat.reduceSub, reduceCtorEq, Nat.reduceLeDiff, Nat.reduceLT, Int.reduceLT, Int.reduceLE, Int.reduceToNat, Int.reduceAdd, Int.reduceSub, Int.reduceNeg, Int.reduceMul, Int.reduceEq, ← Bool.decide_and, ← Bool.decide_or, ↓tq_n, ↓tq_e, ↓tq_r, ↓bq_n, ↓bq_e, ↓bq_r, ↓rq_n, ↓rq_r, ↓rq_e]
          exact ret_ok (by rw [no])
        · have k8' : decide ((a.getD i (0, 0)).1 = (a.getD (i - 1) (0, 0)).1) = true := decide_eq_true (by omega)
          have k9 : (a.getD i (0, 0)).2 ≤ (a.getD (i - 1) (0, 0)).2 := by omega
          simp only [hc, prs_drop h5, k1, k2, k3, k4, k5, h8, e8, hr1, hr2, hr3, prs_drop h9, k7, k8', k9, F_poset_Valid, g_poset_Valid, go_sem, reduceIte, Nat.reduceEqDiff, Nat.reduceAdd, Nat.reduceMul, Nat.reduceSub, reduceCtorEq, Nat.reduceLeDiff, Nat.reduceLT, Int.reduceLT, Int.reduceLE, Int.reduceToNat, Int.reduceAdd, Int.reduceSub, Int.reduceNeg, Int.reduceMul, Int.reduceEq, ← Bool.decide_and, ← Bool.decide_or, ↓tq_n, ↓tq_e, ↓tq_r, ↓bq_n, ↓bq_e, ↓bq_r, ↓rq_n, ↓rq_r, ↓rq_e]
          exact ret_ok (by rw [no])
    · have no : decide (Dg n a) = false := decide_eq_false fun hh => h6 (hh.2.2 i h5).1
      by_cases k1 : (a.getD i (0, 0)).1 < 0
      · simp only [hc, prs_drop h5, k1, F_poset_Valid, g_poset_Valid, go_sem, reduceIte, Nat.reduceEqDiff, Nat.reduceAdd, Nat.reduceMul, Nat.reduceSub, reduceCtorEq, Nat.reduceLeDiff, Nat.reduceLT, Int.reduceLT, Int.reduceLE, Int.reduceToNat, Int.reduceAdd, Int.reduceSub, Int.reduceNeg, Int.reduceMul, Int.reduceEq, ← Bool.decide_and, ← Bool.decide_or, ↓tq_n, ↓tq_e, ↓tq_r, ↓bq_n, ↓bq_e, ↓bq_r, ↓rq_n, ↓rq_r, ↓rq_e]
        exact ret_ok (by rw [no])
      by_cases k2 : n ≤ (a.getD i (0, 0)).1
      · simp only [hc, prs_drop h5, k1, k2, F_poset_Valid, g_poset_Valid, go_sem, reduceIte, Nat.reduceEqDiff, Nat.reduceAdd, Nat.reduceMul, Nat.reduceSub, reduceCtorEq, Nat.reduceLeDiff, Nat.reduceLT, Int.reduceLT, Int.reduceLE, Int.reduceToNat, Int.reduceAdd, Int.reduceSub, Int.reduceNeg, Int.reduceMul, Int.reduceEq, ← Bool.decide_and, ← Bool.decide_or, ↓tq_n, ↓tq_e, ↓tq_r, ↓bq_n, ↓bq_e, ↓bq_r, ↓rq_n, ↓rq_r, ↓rq_e]
        exact ret_ok (by rw [no])
      by_cases k3 : (a.getD i (0, 0)).2 < 0
      · simp only [hc, prs_drop h5, k1, k2, k3, F_poset_Valid, g_poset_Valid, go_sem, reduceIte, Nat.reduceEqDiff, Nat.reduceAdd, Nat.reduceMul, Nat.reduceSub, reduceCtorEq, Nat.reduceLeDiff, Nat.reduceLT, Int.reduceLT, Int.reduceLE, Int.reduceToNat, Int.reduceAdd, Int.reduceSub, Int.reduceNeg, Int.reduceMul, Int.reduceEq, ← Bool.decide_and, ← Bool.decide_or, ↓tq_n, ↓tq_e, ↓tq_r, ↓bq_n, ↓bq_e, ↓bq_r, ↓rq_n, ↓rq_r, ↓rq_e]
        exact ret_ok (by rw [no])
      by_cases k4 : n ≤ (a.getD i (0, 0)).2
      · simp only [hc, prs_drop h5, k1, k2, k3, k4, F_poset_Valid, g_poset_Valid, go_sem, reduceIte, Nat.reduceEqDiff, Nat.reduceAdd, Nat.reduceMul, Nat.reduceSub, reduceCtorEq, Nat.reduceLeDiff, Nat.reduceLT, Int.reduceLT, Int.reduceLE, Int.reduceToNat, Int.reduceAdd, Int.reduceSub, Int.reduceNeg, Int.reduceMul, Int.reduceEq, ← Bool.decide_and, ← Bool.decide_or, ↓tq_n, ↓tq_e, ↓tq_r, ↓bq_n, ↓bq_e, ↓bq_r, ↓rq_n, ↓rq_r, ↓rq_e]
        exact ret_ok (by rw [no])
      by_cases k5 : (a.getD i (0, 0)).1 = (a.getD i (0, 0)).2
      · have k5' : decide ((a.getD i (0, 0)).1 = (a.getD i (0, 0)).2) = true := decide_eq_true k5
        simp only [hc, prs_drop h5, k1, k2, k3, k4, k5', F_poset_Valid, g_poset_Valid, go_sem, reduceIte, Nat.reduceEqDiff, Nat.reduceAdd, Nat.reduceMul, Nat.reduceSub, reduceCtorEq, Nat.reduceLeDiff, Nat.reduceLT, Int.reduceLT, Int.reduceLE, Int.reduceToNat, Int.reduceAdd, Int.reduceSub, Int.reduceNeg, Int.reduceMul, Int.reduceEq, ← Bool.decide_and, ← Bool.decide_or, ↓tq_n, ↓tq_e, ↓tq_r, ↓bq_n, ↓bq_e, ↓bq_r, ↓rq_n, ↓rq_r, ↓rq_e]
        exact ret_ok (by rw [no])
      exact absurd ⟨by omega, by omega, by omega, by omega, k5⟩ h6
  have h5 : i = a.length := by omega
  subst h5
  simp only [F_poset_Valid, g_poset_Valid, go_sem, reduceIte, Nat.reduceEqDiff, Nat.reduceAdd, Nat.reduceMul, Nat.reduceSub, reduceCtorEq, Nat.reduceLeDiff, Nat.reduceLT, Int.reduceLT, Int.reduceLE, Int.reduceToNat, Int.reduceAdd, Int.reduceSub, Int.reduceNeg, Int.reduceMul, Int.reduceEq, ← Bool.decide_and, ← Bool.decide_or, ↓tq_n, ↓tq_e, ↓tq_r, ↓bq_n, ↓bq_e, ↓bq_r, ↓rq_n, ↓rq_r, ↓rq_e]
  exact ret_ok (by rw [decide_eq_true ⟨by omega, by omega, ha⟩])

/-- The closure as the code computes it. -/
def posR (n : Nat) (a : List (Int × Int)) : List Nat := wr n (nxt n a a.length) n
theorem Dg.arc {n : Nat} {a : List (Int × Int)} (h : Dg n a) : ∀ i, i < a.length → Arc n (a.getD i (0, 0)) := fun i hi => by
  have := (h.2.2 i hi).1
  exact ⟨this.1, this.2.1, this.2.2.1, this.2.2.2.1⟩
theorem posR_len (n : Nat) (a : List (Int × Int)) : (posR n a).length = n := by unfold posR; rw [wr_len, nxt_len]
theorem posR_sm {n : Nat} {a : List (Int × Int)} (h : Dg n a) : Sm (posR n a) := wr_sm (nxt_sm (by have := h.2.1; omega) (fun i hi => (h.arc i hi).2.2.2) _ (Nat.le_refl _)) n
theorem r_poset_Closure (n : Nat) (nl : Bool) (a : List (Int × Int)) (tl : Tail) (hal : a.length ≤ 100000) (h : AH) : RCall Try.prog n_poset_ClosureW [I n, .sl nl a.length (prs a) tl] h
    (if Dg n a then .tup [gl (prs (lsI (posR n a) n)) (lsI (posR n a) n).length .unk, I 0] else .tup [.sl true 0 [] .full, I 1]) := by
  refine RCall.of hm cF_poset_ClosureW (by simp [g_poset_ClosureW]) fun hw h' hl => ?_
  simp only [F_poset_ClosureW, g_poset_ClosureW, go_sem, reduceIte, Nat.reduceEqDiff, Nat.reduceAdd, Nat.reduceMul, Nat.reduceSub, reduceCtorEq, Nat.reduceLeDiff, Nat.reduceLT, Int.reduceLT, Int.reduceLE, Int.reduceToNat, Int.reduceAdd, Int.reduceSub, Int.reduceNeg, Int.reduceMul, Int.reduceEq, ← Bool.decide_and, ← Bool.decide_or, ↓tq_n, ↓tq_e, ↓tq_r, ↓bq_n, ↓bq_e, ↓bq_r, ↓rq_n, ↓rq_r, ↓rq_e]
  refine CallG.mk (r_poset_Valid n nl a tl _) ?_
  by_cases hd : Dg n a
  · have hn : n ≤ 24 := by have := hd.2.1; omega
    rw [decide_eq_true hd, if_pos hd]
    simp only [F_poset_ClosureW, g_poset_ClosureW, go_sem, reduceIte, Nat.reduceEqDiff, Nat.reduceAdd, Nat.reduceMul, Nat.reduceSub, reduceCtorEq, Nat.reduceLeDiff, Nat.reduceLT, Int.reduceLT, Int.reduceLE, Int.reduceToNat, Int.reduceAdd, Int.reduceSub, Int.reduceNeg, Int.reduceMul, Int.reduceEq, ← Bool.decide_and, ← Bool.decide_or, ↓tq_n, ↓tq_e, ↓tq_r, ↓bq_n, ↓bq_e, ↓bq_r, ↓rq_n, ↓rq_r, ↓rq_e]
    refine CallS.mk (s_poset_reach n hn nl a tl hd.arc hal _) fun r h'' hr => ?_
    obtain ⟨b, hb, rfl, rfl⟩ := hr
    simp only [F_poset_ClosureW, g_poset_ClosureW, go_sem, reduceIte, Nat.reduceEqDiff, Nat.reduceAdd, Nat.reduceMul, Nat.reduceSub, reduceCtorEq, Nat.reduceLeDiff, Nat.reduceLT, Int.reduceLT, Int.reduceLE, Int.reduceToNat, Int.reduceAdd, Int.reduceSub, Int.reduceNeg, Int.reduceMul, Int.reduceEq, ← Bool.decide_and, ← Bool.decide_or, ↓tq_n, ↓tq_e, ↓tq_r, ↓bq_n, ↓bq_e, ↓bq_r, ↓rq_n, ↓rq_r, ↓rq_e]
    refine CallG.mk (r_poset_list b n (posR n a) (posR_len n a) hn (posR_sm hd) _ (AH.blk_put _ _ _)) ?_
    simp only [F_poset_ClosureW, g_poset_ClosureW, go_sem, reduceIte, Nat.reduceEqDiff, Nat.reduceAdd, Nat.reduceMul, Nat.reduceSub, reduceCtorEq, Nat.reduceLeDiff, Nat.reduceLT, Int.reduceLT, Int.reduceLE, Int.reduceToNat, Int.reduceAdd, Int.reduceSub, Int.reduceNeg, Int.reduceMul, Int.reduceEq, ← Bool.decide_and, ← Bool.decide_or, ↓tq_n, ↓tq_e, ↓tq_r, ↓bq_n, ↓bq_e, ↓bq_r, ↓rq_n, ↓rq_r, ↓rq_e]
    exact ret_hb (AH.le_new _ _ hb) rfl
  · rw [decide_eq_false hd, if_neg hd]
    simp only [F_poset_ClosureW, g_poset_ClosureW, go_sem, reduceIte, Nat.reduceEqDiff, Nat.reduceAdd, Nat.reduceMul, Nat.reduceSub, reduceCtorEq, Nat.reduceLeDiff, Nat.reduceLT, Int.reduceLT, Int.reduceLE, Int.reduceToNat, Int.reduceAdd, Int.reduceSub, Int.reduceNeg, Int.reduceMul, Int.reduceEq, ← Bool.decide_and, ← Bool.decide_or, ↓tq_n, ↓tq_e, ↓tq_r, ↓bq_n, ↓bq_e, ↓bq_r, ↓rq_n, ↓rq_r, ↓rq_e]
    exact ret_ok rfl
theorem r_poset_Acyclic (n : Nat) (nl : Bool) (a : List (Int × Int)) (tl : Tail) (hal : a.length ≤ 100000) (h : AH) : RCall Try.prog n_poset_AcyclicW [I n, .sl nl a.length (prs a) tl] h
    (.bool (decide (Dg n a) && acI (posR n a) n)) := by
  refine RCall.of hm cF_poset_AcyclicW (by simp [g_poset_AcyclicW]) fun hw h' hl => ?_
  simp only [F_poset_AcyclicW, g_poset_AcyclicW, go_sem, reduceIte, Nat.reduceEqDiff, Nat.reduceAdd, Nat.reduceMul, Nat.reduceSub, reduceCtorEq, Nat.reduceLeDiff, Nat.reduceLT, Int.reduceLT, Int.reduceLE, Int.reduceToNat, Int.reduceAdd, Int.reduceSub, Int.reduceNeg, Int.reduceMul, Int.reduceEq, ← Bool.decide_and, ← Bool.decide_or, ↓tq_n, ↓tq_e, ↓tq_r, ↓bq_n, ↓bq_e, ↓bq_r, ↓rq_n, ↓rq_r, ↓rq_e]
  refine CallG.mk (r_poset_Valid n nl a tl _) ?_
  by_cases hd : Dg n a
  · have hn : n ≤ 24 := by have := hd.2.1; omega
    rw [decide_eq_true hd]
    simp only [F_poset_AcyclicW, g_poset_AcyclicW, go_sem, reduceIte, Nat.reduceEqDiff, Nat.reduceAdd, Nat.reduceMul, Nat.reduceSub, reduceCtorEq, Nat.reduceLeDiff, Nat.reduceLT, Int.reduceLT, Int.reduceLE, Int.reduceToNat, Int.reduceAdd, Int.reduceSub, Int.reduceNeg, Int.reduceMul, Int.reduceEq, ← Bool.decide_and, ← Bool.decide_or, ↓tq_n, ↓tq_e, ↓tq_r, ↓bq_n, ↓bq_e, ↓bq_r, ↓rq_n, ↓rq_r, ↓rq_e]
    refine CallS.mk (s_poset_reach n hn nl a tl hd.arc hal _) fun r h'' hr => ?_
    obtain ⟨b, hb, rfl, rfl⟩ := hr
    simp only [F_poset_AcyclicW, g_poset_AcyclicW, go_sem, reduceIte, Nat.reduceEqDiff, Nat.reduceAdd, Nat.reduceMul, Nat.reduceSub, reduceCtorEq, Nat.reduceLeDiff, Nat.reduceLT, Int.reduceLT, Int.reduceLE, Int.reduceToNat, Int.reduceAdd, Int.reduceSub, Int.reduceNeg, Int.reduceMul, Int.reduceEq, ← Bool.decide_and, ← Bool.decide_or, ↓tq_n, ↓tq_e, ↓tq_r, ↓bq_n, ↓bq_e, ↓bq_r, ↓rq_n, ↓rq_r, ↓rq_e]
    refine CallG.mk (r_poset_acyclic b n (posR n a) (posR_len n a) hn (posR_sm hd) _ (AH.blk_put _ _ _)) ?_
    simp only [F_poset_AcyclicW, g_poset_AcyclicW, go_sem, reduceIte, Nat.reduceEqDiff, Nat.reduceAdd, Nat.reduceMul, Nat.reduceSub, reduceCtorEq, Nat.reduceLeDiff, Nat.reduceLT, Int.reduceLT, Int.reduceLE, Int.reduceToNat, Int.reduceAdd, Int.reduceSub, Int.reduceNeg, Int.reduceMul, Int.reduceEq, ← Bool.decide_and, ← Bool.decide_or, ↓tq_n, ↓tq_e, ↓tq_r, ↓bq_n, ↓bq_e, ↓bq_r, ↓rq_n, ↓rq_r, ↓rq_e]
    exact ret_hb (AH.le_new _ _ hb) (by simp)
  · rw [decide_eq_false hd]
    simp only [F_poset_AcyclicW, g_poset_AcyclicW, go_sem, reduceIte, Nat.reduceEqDiff, Nat.reduceAdd, Nat.reduceMul, Nat.reduceSub, reduceCtorEq, Nat.reduceLeDiff, Nat.reduceLT, Int.reduceLT, Int.reduceLE, Int.reduceToNat, Int.reduceAdd, Int.reduceSub, Int.reduceNeg, Int.reduceMul, Int.reduceEq, ← Bool.decide_and, ← Bool.decide_or, ↓tq_n, ↓tq_e, ↓tq_r, ↓bq_n, ↓bq_e, ↓bq_r, ↓rq_n, ↓rq_r, ↓rq_e]
    exact ret_ok (by simp)
end Go.Proofs.Ytndcbompcnlhmaa
