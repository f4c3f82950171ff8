/- Sets of vertices as unsigned numbers. No condition. -/
import Derived.Test.YtemfmnjhhdeedaaD0
import Derived.Test.YtemfmnjhhdeedaaA23
import Derived.Test.YtemfmnjhhdeedaaR0
namespace Go.Proofs.Ytemfmnjhhdeedaa
open Go Go.Abs
set_option linter.unusedSimpArgs false
set_option linter.unusedVariables false
set_option maxRecDepth 20000

theorem bitu32_at {m i : Nat} (hm : m < 4294967296) (hi : i ≤ 32) : bitop .and .u32 (Int.fdiv (m : Int) (2 ^ (Nat.min i 32))) 1 = if m.testBit i then 1 else 0 := by
  have e1 : Nat.min i 32 = i := by exact Nat.min_eq_left hi
  rw [e1, fdiv_pow]
  have h1 : m / 2 ^ i ≤ m := Nat.div_le_self _ _
  have h2 := bitu32_and (x := m / 2 ^ i) (y := 1) (by omega) (by omega)
  rw [show ((1 : Nat) : Int) = 1 from rfl] at h2
  rw [h2, Nat.and_one_is_mod, Nat.testBit_eq_decide_div_mod_eq]
  have := Nat.mod_two_eq_zero_or_one (m / 2 ^ i)
  rcases this with h | h <;> simp [h]
theorem shl32_one {i : Nat} (hi : i ≤ 31) : IntKind.wrap .u32 (1 * 2 ^ (Nat.min i 32)) = ((2 ^ i : Nat) : Int) := by
  have e1 : Nat.min i 32 = i := by exact Nat.min_eq_left (by omega)
  rw [e1, Int.one_mul, show (2 : Int) ^ i = ((2 ^ i : Nat) : Int) by simp]
  refine wrap_u32 ?_
  have : 2 ^ i ≤ 2 ^ 31 := Nat.pow_le_pow_right (by decide) hi
  omega
/-- Bounded sets. -/
def Sm (out : List Nat) : Prop := ∀ i, out.getD i 0 < 4294967296
theorem Sm.set {out : List Nat} (h : Sm out) {i v : Nat} (hv : v < 4294967296) : Sm (out.set i v) := by
  intro j
  by_cases hi : i < out.length
  · rw [getD_set hi]; split
    · exact hv
    · exact h j
  · rw [List.set_eq_of_length_le (by omega)]; exact h j
theorem or32 {x y : Nat} (hx : x < 4294967296) (hy : y < 4294967296) : x ||| y < 4294967296 := by
  have : x ||| y < 2 ^ 32 := Nat.or_lt_two_pow (by omega) (by omega)
  omega
theorem nxt_sm {n : Nat} (hn : n ≤ 24) {a : List (Int × Int)} (ha : ∀ i, i < a.length → (a.getD i (0, 0)).2 < n) : ∀ k, k ≤ a.length → Sm (nxt n a k) := by
  intro k
  induction k with
  | zero => intro _ i; unfold nxt; rw [List.getD_eq_getElem?_getD, List.getElem?_replicate]; split <;> simp
  | succ k ih =>
    intro hk
    unfold nxt
    refine (ih (by omega)).set (or32 (ih (by omega) _) ?_)
    have h1 := ha k (by omega)
    have : 2 ^ (a.getD k (0, 0)).2.toNat ≤ 2 ^ 31 := Nat.pow_le_pow_right (by decide) (by omega)
    omega
theorem wi_sm {m : Nat} {out : List Nat} (h : Sm out) (i : Nat) : Sm (wi m out i) := by
  induction i with
  | zero => exact h
  | succ i ih => unfold wi; split
                 · exact ih.set (or32 (ih _) (ih _))
                 · exact ih
theorem wr_sm {n : Nat} {out : List Nat} (h : Sm out) (m : Nat) : Sm (wr n out m) := by
  induction m with
  | zero => exact h
  | succ m ih => exact wi_sm ih n
theorem u32s_get {l : List Nat} {i : Nat} (h : i < l.length) : (u32s l).getD i (.int .u32 0) = .int .u32 (l.getD i 0 : Nat) := by
  simp [u32s, List.getD, h]
theorem u32s_drop {l : List Nat} {i : Nat} (h : i < l.length) : (u32s l).drop i = .int .u32 ((l.getD i 0 : Nat) : Int) :: (u32s l).drop (i + 1) := by
  have : (u32s l).drop i = u32s (l.drop i) := by simp [u32s, List.map_drop]
  rw [this, getD_drop l 0 h]
  simp [u32s, List.map_drop]
def Arc (n : Nat) (x : Int × Int) : Prop := 0 ≤ x.1 ∧ x.1 < n ∧ 0 ≤ x.2 ∧ x.2 < n

def bls (l : List Bool) : List AV := l.map AV.bool
theorem bls_len (l : List Bool) : (bls l).length = l.length := by simp [bls]
theorem bls_drop {l : List Bool} {i : Nat} (h : i < l.length) : (bls l).drop i = .bool (l.getD i false) :: (bls l).drop (i + 1) := by
  have : (bls l).drop i = bls (l.drop i) := by simp [bls, List.map_drop]
  rw [this, getD_drop l false h]
  simp [bls, List.map_drop]
end Go.Proofs.Ytemfmnjhhdeedaa
