/- Sets of vertices as numbers; the closure of Warshall. No program in sight. -/
import Derived.Test.YtndcbompcnlhmaaA21
namespace Go.Proofs.Ytndcbompcnlhmaa
open Go Go.Abs
set_option linter.unusedSimpArgs false
set_option linter.unusedVariables false

/-- Whether j is in the i-th set. -/
def bt (out : List Nat) (i j : Nat) : Bool := (out.getD i 0).testBit j
def u32s (l : List Nat) : List AV := l.map fun (x : Nat) => .int .u32 (x : Int)
theorem u32s_len (l : List Nat) : (u32s l).length = l.length := by simp [u32s]
/-- The sets that arcs make. -/
def nxt (n : Nat) (a : List (Int × Int)) : Nat → List Nat
  | 0 => List.replicate n 0
  | i + 1 => (nxt n a i).set (a.getD i (0, 0)).1.toNat ((nxt n a i).getD (a.getD i (0, 0)).1.toNat 0 ||| 2 ^ (a.getD i (0, 0)).2.toNat)
/-- The first i rows of one round of Warshall. -/
def wi (m : Nat) (out : List Nat) : Nat → List Nat
  | 0 => out
  | i + 1 => if bt (wi m out i) i m then (wi m out i).set i ((wi m out i).getD i 0 ||| (wi m out i).getD m 0) else wi m out i
def wr (n : Nat) (out : List Nat) : Nat → List Nat
  | 0 => out
  | m + 1 => wi m (wr n out m) n
theorem nxt_len (n : Nat) (a : List (Int × Int)) (i : Nat) : (nxt n a i).length = n := by
  induction i with
  | zero => simp [nxt]
  | succ i ih => simp [nxt, ih]
theorem wi_len (m : Nat) (out : List Nat) (i : Nat) : (wi m out i).length = out.length := by
  induction i with
  | zero => rfl
  | succ i ih => unfold wi; split <;> simp [ih]
theorem wr_len (n : Nat) (out : List Nat) (m : Nat) : (wr n out m).length = out.length := by
  induction m with
  | zero => rfl
  | succ m ih => rw [wr, wi_len, ih]
theorem set_same {l : List Nat} {i : Nat} : l.set i (l.getD i 0) = l := by
  refine List.ext_getElem (by simp) fun j h1 h2 => ?_
  rw [List.getElem_set]
  split
  · rename_i h; subst h; rw [List.getD_eq_getElem?_getD, List.getElem?_eq_getElem h2]; rfl
  · rfl
/-- A round changes nothing where the sets are closed. -/
theorem wi_trans {m : Nat} {out : List Nat} (h : ∀ i j, bt out i m = true → bt out m j = true → bt out i j = true) : ∀ i, wi m out i = out := by
  intro i
  induction i with
  | zero => rfl
  | succ i ih =>
    unfold wi
    rw [ih]
    split
    · rename_i hb
      have : out.getD i 0 ||| out.getD m 0 = out.getD i 0 := by
        refine Nat.eq_of_testBit_eq fun j => ?_
        rw [Nat.testBit_or]
        cases h1 : (out.getD m 0).testBit j with
        | false => simp
        | true => have := h i j hb h1; unfold bt at this; rw [this]; rfl
      rw [this, set_same]
    · rfl
theorem wr_trans {n : Nat} {out : List Nat} (h : ∀ m i j, bt out i m = true → bt out m j = true → bt out i j = true) : ∀ m, wr n out m = out := by
  intro m
  induction m with
  | zero => rfl
  | succ m ih => rw [wr, ih]; exact wi_trans (fun i j => h m i j) n
theorem getD_set {l : List Nat} {i j v : Nat} (hi : i < l.length) : (l.set i v).getD j 0 = if i = j then v else l.getD j 0 := by
  simp only [List.getD_eq_getElem?_getD, List.getElem?_set]
  by_cases h : i = j
  · subst h; simp [hi]
  · simp [h]
/-- A bit of the sets that arcs make. -/
theorem nxt_bt {n : Nat} {a : List (Int × Int)} (ha : ∀ i, i < a.length → 0 ≤ (a.getD i (0, 0)).1 ∧ (a.getD i (0, 0)).1 < n ∧ 0 ≤ (a.getD i (0, 0)).2 ∧ (a.getD i (0, 0)).2 < n) : ∀ k, k ≤ a.length → ∀ i j, bt (nxt n a k) i j = true ↔ ∃ q, q < k ∧ a.getD q (0, 0) = ((i : Int), (j : Int)) := by
  intro k
  induction k with
  | zero =>
    intro _ i j
    unfold bt nxt
    rw [List.getD_eq_getElem?_getD, List.getElem?_replicate]
    constructor
    · intro h; split at h <;> simp at h
    · rintro ⟨q, h, _⟩; omega
  | succ k ih =>
    intro hk i j
    have hq := ha k (by omega)
    have ih := ih (by omega) i j
    unfold bt nxt
    rw [getD_set (by rw [nxt_len]; omega)]
    split
    · rename_i h
      rw [Nat.testBit_or, Nat.testBit_two_pow, Bool.or_eq_true, h]
      constructor
      · rintro (h1 | h1)
        · obtain ⟨q, h2, h3⟩ := ih.1 h1; exact ⟨q, by omega, h3⟩
        · refine ⟨k, by omega, Prod.ext ?_ ?_⟩
          · simp only; omega
          · have := of_decide_eq_true h1; simp only; omega
      · rintro ⟨q, h2, h3⟩
        by_cases h4 : q = k
        · subst h4; right; rw [h3]; simp
        · left; exact ih.2 ⟨q, by omega, h3⟩
    · rename_i h
      have e : (nxt n a k).getD i 0 = (nxt n a k).getD i 0 := rfl
      show bt (nxt n a k) i j = true ↔ _
      rw [ih]
      constructor
      · rintro ⟨q, h2, h3⟩; exact ⟨q, by omega, h3⟩
      · rintro ⟨q, h2, h3⟩
        by_cases h4 : q = k
        · subst h4; rw [h3] at h; simp at h
        · exact ⟨q, by omega, h3⟩
end Go.Proofs.Ytndcbompcnlhmaa
