/- Shortest ways between numbered places: the tight bounds of differences. No condition. -/
import Derived.Test.YtnekkkjedmlloaaA21
namespace Go.Abs
open Go
set_option linter.unusedSimpArgs false
set_option linter.unusedVariables false

abbrev Mx := Nat → Nat → Int
def lim (M : Mx) (i j : Nat) (c : Int) : Mx := fun a b => if a = i ∧ b = j then min (M i j) c else M a b
theorem lim_le (M : Mx) (i j : Nat) (c : Int) (a b : Nat) : lim M i j c a b ≤ M a b := by
  unfold lim
  split
  · rename_i h; obtain ⟨rfl, rfl⟩ := h; omega
  · omega
theorem lim_at (M : Mx) (i j : Nat) (c : Int) : lim M i j c i j = min (M i j) c := by simp [lim]
theorem lim_ne (M : Mx) {i j a b : Nat} (c : Int) (h : ¬ (a = i ∧ b = j)) : lim M i j c a b = M a b := by simp only [lim, h, if_false]

/-- Values that keep the bounds. -/
def Sat (n : Nat) (d : Nat → Int) (M : Mx) : Prop := ∀ a b, a < n → b < n → d b - d a ≤ M a b
theorem sat_lim {n : Nat} {d : Nat → Int} {M : Mx} {i j : Nat} {c : Int} (hi : i < n) (hj : j < n) : Sat n d (lim M i j c) ↔ Sat n d M ∧ d j - d i ≤ c := by
  constructor
  · intro h
    refine ⟨fun a b ha hb => Int.le_trans (h a b ha hb) (lim_le _ _ _ _ _ _), ?_⟩
    have := h i j hi hj
    rw [lim_at] at this
    omega
  · intro ⟨h1, h2⟩ a b ha hb
    unfold lim
    split
    · rename_i h; obtain ⟨rfl, rfl⟩ := h
      have := h1 a b ha hb
      omega
    · exact h1 a b ha hb

def lims (M : Mx) (l : List (Nat × Nat × Int)) : Mx := l.foldl (fun M x => lim M x.1 x.2.1 x.2.2) M
theorem lims_append (M : Mx) (l m : List (Nat × Nat × Int)) : lims M (l ++ m) = lims (lims M l) m := by simp [lims]
theorem lims_nil (M : Mx) : lims M [] = M := rfl
theorem lims_one (M : Mx) (i j : Nat) (c : Int) : lims M [(i, j, c)] = lim M i j c := rfl
theorem lims_two (M : Mx) (i j i' j' : Nat) (c c' : Int) : lims M [(i, j, c), (i', j', c')] = lim (lim M i j c) i' j' c' := rfl
theorem lims_le (l : List (Nat × Nat × Int)) : ∀ (M : Mx) (a b : Nat), lims M l a b ≤ M a b := by
  induction l with
  | nil => intro M a b; exact Int.le_refl _
  | cons x l ih => intro M a b; exact Int.le_trans (ih _ a b) (lim_le _ _ _ _ _ _)
theorem sat_lims {n : Nat} {d : Nat → Int} : ∀ {l : List (Nat × Nat × Int)} {M : Mx}, (∀ x ∈ l, x.1 < n ∧ x.2.1 < n) → (Sat n d (lims M l) ↔ Sat n d M ∧ ∀ x ∈ l, d x.2.1 - d x.1 ≤ x.2.2) := by
  intro l
  induction l with
  | nil => intro M _; simp [lims_nil]
  | cons x l ih =>
    intro M hx
    have h1 := hx x (by simp)
    have : lims M (x :: l) = lims (lim M x.1 x.2.1 x.2.2) l := rfl
    rw [this, ih (fun y hy => hx y (by simp [hy])), sat_lim h1.1 h1.2]
    simp only [List.mem_cons, forall_eq_or_imp, and_assoc]
theorem lims_lb {L : Int} : ∀ {l : List (Nat × Nat × Int)} {M : Mx}, (∀ a b, -L ≤ M a b) → (∀ x ∈ l, -L ≤ x.2.2) → ∀ a b, -L ≤ lims M l a b := by
  intro l
  induction l with
  | nil => intro M h _; exact h
  | cons x l ih =>
    intro M h hx
    refine ih (M := lim M x.1 x.2.1 x.2.2) (fun a b => ?_) (fun y hy => hx y (by simp [hy]))
    have := hx x (by simp)
    unfold lim
    split
    · have := h x.1 x.2.1; omega
    · exact h a b

/-! ### Closing -/
def rowU (M : Mx) (k i : Nat) : Nat → Mx
  | 0 => M
  | j + 1 => lim (rowU M k i j) i j (rowU M k i j i k + rowU M k i j k j)
def colU (M : Mx) (k n : Nat) : Nat → Mx
  | 0 => M
  | i + 1 => rowU (colU M k n i) k i n
def fw (M : Mx) (n : Nat) : Nat → Mx
  | 0 => M
  | k + 1 => colU (fw M n k) k n n

theorem rowU_le (M : Mx) (k i a b : Nat) : ∀ j, rowU M k i j a b ≤ M a b := by
  intro j
  induction j with
  | zero => exact Int.le_refl _
  | succ j ih => exact Int.le_trans (lim_le _ _ _ _ _ _) ih
theorem colU_le (M : Mx) (k n a b : Nat) : ∀ i, colU M k n i a b ≤ M a b := by
  intro i
  induction i with
  | zero => exact Int.le_refl _
  | succ i ih => exact Int.le_trans (rowU_le _ _ _ _ _ _) ih
theorem fw_step_le (M : Mx) (n a b k : Nat) : fw M n (k + 1) a b ≤ fw M n k a b := colU_le _ _ _ _ _ _
theorem fw_le (M : Mx) (n a b : Nat) : ∀ k d, fw M n (k + d) a b ≤ fw M n k a b := by
  intro k d
  induction d with
  | zero => exact Int.le_refl _
  | succ d ih => exact Int.le_trans (fw_step_le M n a b (k + d)) ih

theorem sat_rowU {n : Nat} {d : Nat → Int} {M : Mx} {k i : Nat} (hk : k < n) (hi : i < n) (h : Sat n d M) : ∀ j, j ≤ n → Sat n d (rowU M k i j) := by
  intro j
  induction j with
  | zero => intro _; exact h
  | succ j ih =>
    intro hj
    have hs := ih (by omega)
    refine (sat_lim hi (by omega)).2 ⟨hs, ?_⟩
    have h1 := hs i k hi hk
    have h2 := hs k j hk (by omega)
    omega
theorem sat_colU {n : Nat} {d : Nat → Int} {M : Mx} {k : Nat} (hk : k < n) (h : Sat n d M) : ∀ i, i ≤ n → Sat n d (colU M k n i) := by
  intro i
  induction i with
  | zero => intro _; exact h
  | succ i ih => intro hi; exact sat_rowU hk (by omega) (ih (by omega)) n (Nat.le_refl n)
theorem sat_fw {n : Nat} {d : Nat → Int} {M : Mx} (h : Sat n d M) : ∀ k, k ≤ n → Sat n d (fw M n k) := by
  intro k
  induction k with
  | zero => intro _; exact h
  | succ k ih => intro hk; exact sat_colU (by omega) (ih (by omega)) n (Nat.le_refl n)

/-- A round, where the diagonal is not below 0. -/
theorem rowU_eq {M : Mx} {k i n : Nat} (hk : k < n) (hd : 0 ≤ M k k) (hrow : ∀ b, M k b ≤ M k k + M k b) :
    ∀ j, j ≤ n → ∀ a b, rowU M k i j a b = if a = i ∧ b < j then min (M a b) (M a k + M k b) else M a b := by
  intro j
  induction j with
  | zero => intro _ a b; simp [rowU]
  | succ j ih =>
    intro hj a b
    have ih := ih (by omega)
    have e1 : rowU M k i j i k = M i k := by
      rw [ih i k]
      split
      · omega
      · rfl
    have e2 : rowU M k i j k j = M k j := by
      rw [ih k j]
      split
      · omega
      · rfl
    simp only [rowU, e1, e2]
    unfold lim
    by_cases h1 : a = i ∧ b = j
    · obtain ⟨rfl, rfl⟩ := h1
      rw [if_pos ⟨rfl, rfl⟩, if_pos ⟨rfl, by omega⟩, ih a b, if_neg (by omega)]
    · rw [if_neg h1, ih a b]
      by_cases h2 : a = i ∧ b < j
      · rw [if_pos h2, if_pos ⟨h2.1, by omega⟩]
      · rw [if_neg h2, if_neg (by omega)]
theorem colU_eq {M : Mx} {k n : Nat} (hk : k < n) (hd : 0 ≤ M k k) : ∀ i, i ≤ n → ∀ a b, b < n → colU M k n i a b = if a < i then min (M a b) (M a k + M k b) else M a b := by
  intro i
  induction i with
  | zero => intro _ a b _; simp [colU]
  | succ i ih =>
    intro hi a b hb
    have ih := ih (by omega)
    have row : ∀ b, b < n → colU M k n i k b = M k b := fun b hb => by
      rw [ih k b hb]
      split
      · omega
      · rfl
    have ek : colU M k n i k k = M k k := row k hk
    have key : ∀ j, j ≤ n → ∀ a b, b < n → rowU (colU M k n i) k i j a b = if a = i ∧ b < j then min (M a b) (M a k + M k b) else colU M k n i a b := by
      intro j
      induction j with
      | zero => intro _ a b _; simp [rowU]
      | succ j ihj =>
        intro hj a b hb
        have ihj := ihj (by omega)
        have e1 : rowU (colU M k n i) k i j i k = M i k := by
          rw [ihj i k hk]
          split
          · omega
          · rw [ih i k hk, if_neg (by omega)]
        have e2 : rowU (colU M k n i) k i j k j = M k j := by
          rw [ihj k j (by omega)]
          split
          · omega
          · exact row j (by omega)
        simp only [rowU, e1, e2]
        unfold lim
        by_cases h1 : a = i ∧ b = j
        · obtain ⟨rfl, rfl⟩ := h1
          rw [if_pos ⟨rfl, rfl⟩, if_pos ⟨rfl, by omega⟩, ihj a b hb, if_neg (by omega), ih a b hb, if_neg (by omega)]
        · rw [if_neg h1, ihj a b hb]
          by_cases h2 : a = i ∧ b < j
          · rw [if_pos h2, if_pos ⟨h2.1, by omega⟩]
          · rw [if_neg h2, if_neg (by omega)]
    show rowU (colU M k n i) k i n a b = _
    rw [key n (Nat.le_refl n) a b hb]
    by_cases h1 : a = i
    · subst h1
      rw [if_pos ⟨rfl, hb⟩, if_pos (by omega)]
    · rw [if_neg (fun hh => h1 hh.1), ih a b hb]
      by_cases h2 : a < i
      · rw [if_pos h2, if_pos (by omega)]
      · rw [if_neg h2, if_neg (by omega)]

/-- The bounds are tight over the first K places. -/
def Tri (n K : Nat) (M : Mx) : Prop := ∀ k a b, k < K → a < n → b < n → M a b ≤ M a k + M k b
theorem tri_step {M : Mx} {n k : Nat} (hk : k < n) (hd : 0 ≤ M k k) (h : Tri n k M) : Tri n (k + 1) (colU M k n n) := by
  intro q a b hq ha hb
  have e : ∀ a b, a < n → b < n → colU M k n n a b = min (M a b) (M a k + M k b) := fun a b ha hb => by
    rw [colU_eq hk hd n (Nat.le_refl n) a b hb, if_pos ha]
  rw [e a b ha hb, e a q ha (by omega), e q b (by omega) hb]
  rcases Nat.lt_succ_iff_lt_or_eq.1 hq with hlt | rfl
  · have h1 := h q a b hlt ha hb
    have h2 := h q k b hlt hk hb
    have h3 := h q a k hlt ha hk
    have h4 := h q k k hlt hk hk
    omega
  · have : ∀ x y : Int, 0 ≤ y → min x (x + y) = x := fun x y hy => by omega
    have : ∀ x y : Int, 0 ≤ y → min x (y + x) = x := fun x y hy => by omega
    omega
/-- Where the last diagonal is not below 0, all bounds are tight. -/
theorem fw_tri {M : Mx} {n : Nat} (hd : ∀ a, a < n → 0 ≤ fw M n n a a) : ∀ k, k ≤ n → Tri n k (fw M n k) := by
  intro k
  induction k with
  | zero => intro _ q a b hq; omega
  | succ k ih =>
    intro hk
    refine tri_step (by omega) ?_ (ih (by omega))
    have := fw_le M n k k k (n - k)
    rw [show k + (n - k) = n by omega] at this
    have := hd k (by omega)
    omega

/-- What the closed bounds say. -/
theorem fw_spec {M : Mx} {n : Nat} (hn : 0 < n) (h0 : M 0 0 ≤ 0) :
    ((∀ a, a < n → 0 ≤ fw M n n a a) → Sat n (fun a => - fw M n n a 0) M ∧ Sat n (fun a => fw M n n 0 a) M ∧ fw M n n 0 0 = 0) ∧
    (∀ d : Nat → Int, d 0 = 0 → Sat n d M → (∀ a, a < n → 0 ≤ fw M n n a a) ∧ ∀ a, a < n → - fw M n n a 0 ≤ d a ∧ d a ≤ fw M n n 0 a) := by
  refine ⟨fun hd => ?_, fun d d0 hs => ?_⟩
  · have ht := fw_tri hd n (Nat.le_refl n)
    have hle : ∀ a b, fw M n n a b ≤ M a b := fun a b => by
      have := fw_le M n a b 0 n
      rw [Nat.zero_add] at this
      exact this
    refine ⟨fun a b ha hb => ?_, fun a b ha hb => ?_, ?_⟩
    · have := ht b a 0 hb ha hn
      have := hle a b
      show - fw M n n b 0 - (- fw M n n a 0) ≤ M a b
      omega
    · have := ht a 0 b ha hn hb
      have := hle a b
      show fw M n n 0 b - fw M n n 0 a ≤ M a b
      omega
    · have := hd 0 hn
      have := hle 0 0
      omega
  · have hf := sat_fw hs n (Nat.le_refl n)
    refine ⟨fun a ha => ?_, fun a ha => ?_⟩
    · have := hf a a ha ha; omega
    · have h1 := hf a 0 ha hn
      have h2 := hf 0 a hn ha
      omega

/-! ### How far the numbers go -/
/-- Within round k, before place (i, j) is turned. -/
structure LbI (M M' : Mx) (k i j : Nat) (L : Int) : Prop where
  same : ∀ a b, (i < a ∨ a = i ∧ j ≤ b) → M' a b = M a b
  diag : -(2 * L) ≤ M' k k
  col : ∀ a, -(3 * L) ≤ M' a k
  row : ∀ b, -(3 * L) ≤ M' k b
  all : ∀ a b, -(6 * L) ≤ M' a b
theorem LbI.step {M M' : Mx} {k i j : Nat} {L : Int} (hL : 0 ≤ L) (hM : ∀ a b, -L ≤ M a b) (h : LbI M M' k i j L) : LbI M (lim M' i j (M' i k + M' k j)) k i (j + 1) L := by
  have hij := h.same i j (.inr ⟨rfl, Nat.le_refl j⟩)
  have hmij := hM i j
  have c1 := h.col i
  have c2 := h.row j
  have c0 := h.diag
  refine ⟨fun a b hab => ?_, ?_, fun a => ?_, fun b => ?_, fun a b => ?_⟩
  · rw [lim_ne _ _ (by omega)]; exact h.same a b (by omega)
  · by_cases hk : k = i ∧ k = j
    · obtain ⟨rfl, hk2⟩ := hk
      subst hk2
      rw [lim_at, hij]; omega
    · rw [lim_ne _ _ hk]; exact h.diag
  · by_cases hk : a = i ∧ k = j
    · obtain ⟨rfl, rfl⟩ := hk
      rw [lim_at, hij]; omega
    · rw [lim_ne _ _ hk]; exact h.col a
  · by_cases hk : k = i ∧ b = j
    · obtain ⟨rfl, rfl⟩ := hk
      rw [lim_at, hij]
      omega
    · rw [lim_ne _ _ hk]; exact h.row b
  · by_cases hk : a = i ∧ b = j
    · obtain ⟨rfl, rfl⟩ := hk
      rw [lim_at, hij]; omega
    · rw [lim_ne _ _ hk]; exact h.all a b
theorem LbI.rowU {M M' : Mx} {k i : Nat} {L : Int} (hL : 0 ≤ L) (hM : ∀ a b, -L ≤ M a b) (h : LbI M M' k i 0 L) : ∀ j, LbI M (Abs.rowU M' k i j) k i j L := by
  intro j
  induction j with
  | zero => exact h
  | succ j ih => exact ih.step hL hM
theorem LbI.colU {M : Mx} {k n : Nat} {L : Int} (hL : 0 ≤ L) (hM : ∀ a b, -L ≤ M a b) : ∀ i, LbI M (Abs.colU M k n i) k i 0 L := by
  intro i
  induction i with
  | zero => exact ⟨fun _ _ _ => rfl, by have := hM k k; simp only [Abs.colU]; omega, fun a => by have := hM a k; simp only [Abs.colU]; omega, fun b => by have := hM k b; simp only [Abs.colU]; omega, fun a b => by have := hM a b; simp only [Abs.colU]; omega⟩
  | succ i ih =>
    have := ih.rowU hL hM n
    exact ⟨fun a b hab => this.same a b (by omega), this.diag, this.col, this.row, this.all⟩
theorem fw_lb {M : Mx} {n : Nat} {L : Int} (hL : 0 ≤ L) (hM : ∀ a b, -L ≤ M a b) : ∀ k, ∀ a b, -(6 ^ k * L) ≤ fw M n k a b := by
  intro k
  induction k with
  | zero => intro a b; have := hM a b; simp only [fw, Int.pow_zero, Int.one_mul]; exact this
  | succ k ih =>
    intro a b
    have h6 : (0 : Int) ≤ 6 ^ k * L := Int.mul_nonneg (Int.le_of_lt (Int.pow_pos (by decide))) hL
    have := (LbI.colU (n := n) (k := k) h6 ih n).all a b
    simp only [fw]
    rw [Int.pow_succ, Int.mul_assoc, Int.mul_comm 6 L, ← Int.mul_assoc]
    omega
end Go.Abs
