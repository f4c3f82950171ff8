/- Calls of functions of this seat's program: package poset. No condition. -/
import Derived.Test.YtnekkkjedmlloaaD0
import Derived.Test.YtnekkkjedmlloaaA23
import Derived.Test.YtnekkkjedmlloaaD1
import Derived.Test.YtnekkkjedmlloaaR0
namespace Go.Proofs.Ytnekkkjedmlloaa
open Go Go.Abs
set_option linter.unusedSimpArgs false
set_option linter.unusedVariables false
set_option maxRecDepth 20000

theorem bitu32_at {m i : Nat} (hm : m < 4294967296) (hi : i ≤ 32) : bitop .and .u32 (Int.fdiv (m : Int) (2 ^ (Nat.min i 32))) 1 = if m.testBit i then 1 else 0 := by
  have e1 : Nat.min i 32 = i := by exact Nat.min_eq_left hi
  rw [e1, fdiv_pow]
  have h1 : m / 2 ^ i ≤ m := Nat.div_le_self _ _
  have h2 := bitu32_and (x := m / 2 ^ i) (y := 1) (by omega) (by omega)
  rw [show ((1 : Nat) : Int) = 1 from rfl] at h2
  rw [h2, Nat.and_one_is_mod, Nat.testBit_eq_decide_div_mod_eq]
  have := Nat.mod_two_eq_zero_or_one (m / 2 ^ i)
  rcases this with h | h <;> simp [h]
theorem shl32_one {i : Nat} (hi : i ≤ 31) : IntKind.wrap .u32 (1 * 2 ^ (Nat.min i 32)) = ((2 ^ i : Nat) : Int) := by
  have e1 : Nat.min i 32 = i := by exact Nat.min_eq_left (by omega)
  rw [e1, Int.one_mul, show (2 : Int) ^ i = ((2 ^ i : Nat) : Int) by simp]
  refine wrap_u32 ?_
  have : 2 ^ i ≤ 2 ^ 31 := Nat.pow_le_pow_right (by decide) hi
  omega
theorem r_poset_has {m i : Nat} (hm' : m < 4294967296) (hi : i < 32) (h : AH) : RCall Try.prog n_poset_set_has [.int .u32 m, I i] h (.bool (m.testBit i)) := by
  refine RCall.of hm cF_poset_set_has (by simp [g_poset_set_has]) fun hw h' hl => ?_
  have h1 := bitu32_at hm' (Nat.le_of_lt hi)
  simp only [h1, F_poset_set_has, g_poset_set_has, go_sem, reduceIte, Nat.reduceEqDiff, Nat.reduceAdd, Nat.reduceMul, Nat.reduceSub, reduceCtorEq, Nat.reduceLeDiff, Nat.reduceLT, Int.reduceLT, Int.reduceLE, Int.reduceToNat, Int.reduceAdd, Int.reduceSub, Int.reduceNeg, Int.reduceMul, Int.reduceEq, ← Bool.decide_and, ← Bool.decide_or, ↓tq_n, ↓tq_e, ↓tq_r, ↓bq_n, ↓bq_e, ↓bq_r, ↓rq_n, ↓rq_r, ↓rq_e]
  exact ret_ok (by cases m.testBit i <;> simp)

/-- Bounded sets. -/
def Sm (out : List Nat) : Prop := ∀ i, out.getD i 0 < 4294967296
theorem Sm.set {out : List Nat} (h : Sm out) {i v : Nat} (hv : v < 4294967296) : Sm (out.set i v) := by
  intro j
  by_cases hi : i < out.length
  · rw [getD_set hi]; split
    · exact hv
    · exact h j
  · rw [List.set_eq_of_length_le (by omega)]; exact h j
theorem or32 {x y : Nat} (hx : x < 4294967296) (hy : y < 4294967296) : x ||| y < 4294967296 := by
  have : x ||| y < 2 ^ 32 := Nat.or_lt_two_pow (by omega) (by omega)
  omega
theorem nxt_sm {n : Nat} (hn : n ≤ 24) {a : List (Int × Int)} (ha : ∀ i, i < a.length → (a.getD i (0, 0)).2 < n) : ∀ k, k ≤ a.length → Sm (nxt n a k) := by
  intro k
  induction k with
  | zero => intro _ i; unfold nxt; rw [List.getD_eq_getElem?_getD, List.getElem?_replicate]; split <;> simp
  | succ k ih =>
    intro hk
    unfold nxt
    refine (ih (by omega)).set (or32 (ih (by omega) _) ?_)
    have h1 := ha k (by omega)
    have : 2 ^ (a.getD k (0, 0)).2.toNat ≤ 2 ^ 31 := Nat.pow_le_pow_right (by decide) (by omega)
    omega
theorem wi_sm {m : Nat} {out : List Nat} (h : Sm out) (i : Nat) : Sm (wi m out i) := by
  induction i with
  | zero => exact h
  | succ i ih => unfold wi; split
                 · exact ih.set (or32 (ih _) (ih _))
                 · exact ih
theorem wr_sm {n : Nat} {out : List Nat} (h : Sm out) (m : Nat) : Sm (wr n out m) := by
  induction m with
  | zero => exact h
  | succ m ih => exact wi_sm ih n
theorem u32s_get {l : List Nat} {i : Nat} (h : i < l.length) : (u32s l).getD i (.int .u32 0) = .int .u32 (l.getD i 0 : Nat) := by
  simp [u32s, List.getD, h]
end Go.Proofs.Ytnekkkjedmlloaa
