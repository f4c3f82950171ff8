/- What a check of spots answers, and other answers of this seat. No program in sight. -/
import Derived.Test.YtkoecjhjdckgeaaP1
namespace Go.Proofs.Ytkoecjhjdckgeaa
open Go Go.Abs
set_option linter.unusedSimpArgs false
set_option linter.unusedVariables false

/-- The first item with an Id. -/
def fnd : List It → Int → It
  | [], _ => dI
  | x :: l, k => if x.1 = k then x else fnd l k
theorem fnd_at {l : List It} {k : Int} : ∀ {j : Nat}, j < l.length → (l.getD j dI).1 = k → (∀ i, i < j → (l.getD i dI).1 ≠ k) → fnd l k = l.getD j dI := by
  induction l with
  | nil => intro j h; simp at h
  | cons x l ih =>
    intro j hj h1 h2
    unfold fnd
    cases j with
    | zero => simp only [List.getD_cons_zero] at h1 ⊢; rw [if_pos h1]
    | succ j =>
      have := h2 0 (by omega)
      simp only [List.getD_cons_zero] at this
      rw [if_neg this]
      simp only [List.getD_cons_succ] at h1 ⊢
      exact ih (by simpa using hj) h1 fun i hi => by have := h2 (i + 1) (by omega); simpa using this
theorem fnd_none {l : List It} {k : Int} : (∀ j, j < l.length → (l.getD j dI).1 ≠ k) → fnd l k = dI := by
  induction l with
  | nil => intro _; rfl
  | cons x l ih =>
    intro h
    unfold fnd
    have := h 0 (by simp)
    simp only [List.getD_cons_zero] at this
    rw [if_neg this]
    exact ih fun j hj => by have := h (j + 1) (by simpa using hj); simpa using this
/-- A spot is of an item, and of none before it. -/
def spOK (l : List It) (s : List Sp) (i : Nat) : Prop := (∃ j, j < l.length ∧ (l.getD j dI).1 = (s.getD i dS).1) ∧ ∀ k, k < i → (s.getD k dS).1 ≠ (s.getD i dS).1
instance (l : List It) (s : List Sp) (i : Nat) : Decidable (spOK l s i) := by unfold spOK; infer_instance
def badS (l : List It) (p : It) (x : Sp) : Prop := x.2.1 < 0 ∨ ¬ inn p (fnd l x.1) x
instance (l : List It) (p : It) (x : Sp) : Decidable (badS l p x) := by unfold badS; infer_instance
def nr (a n b m g : Int) : Prop := b < a + n + g ∧ a < b + m + g
instance (a n b m g : Int) : Decidable (nr a n b m g) := by unfold nr; infer_instance
theorem nr_symm {a n b m g : Int} (h : nr a n b m g) : nr b m a n g := ⟨h.2, h.1⟩
def cfS (l : List It) (p : It) (x y : Sp) : Prop := x.2.1 = y.2.1 ∧ nr x.2.2.1 (fnd l x.1).2.1 y.2.2.1 (fnd l y.1).2.1 p.2.2 ∧ nr x.2.2.2 (fnd l x.1).2.2 y.2.2.2 (fnd l y.1).2.2 p.2.2
instance (l : List It) (p : It) (x y : Sp) : Decidable (cfS l p x y) := by unfold cfS; infer_instance
theorem cfS_symm {l : List It} {p : It} {x y : Sp} (h : cfS l p x y) : cfS l p y x := ⟨h.1.symm, nr_symm h.2.1, nr_symm h.2.2⟩
/-- The error of a check. -/
def ckQ (l : List It) (p : It) (s : List Sp) : Int :=
  if gvQ l p ≠ 0 then gvQ l p else if s.length ≠ l.length then 7 else if ¬ ∀ i, i < s.length → spOK l s i then 7 else
  if ∃ i, i < s.length ∧ badS l p (s.getD i dS) then 2 else if ∃ i, i < s.length ∧ ∃ k, k < i ∧ cfS l p (s.getD i dS) (s.getD k dS) then 10 else 0
section
variable {l : List It} {p : It} {s : List Sp}
theorem ckQ_g (h : gvQ l p ≠ 0) : ckQ l p s = gvQ l p := by unfold ckQ; rw [if_pos h]
theorem ckQ_l (h : gvQ l p = 0) (h2 : s.length ≠ l.length) : ckQ l p s = 7 := by unfold ckQ; rw [if_neg (by simp [h]), if_pos h2]
theorem ckQ_s (h : gvQ l p = 0) (h2 : s.length = l.length) {i : Nat} (hi : i < s.length) (h3 : ¬ spOK l s i) : ckQ l p s = 7 := by
  unfold ckQ; rw [if_neg (by simp [h]), if_neg (by simp [h2]), if_pos (fun hh => h3 (hh i hi))]
theorem ckQ_b (h : gvQ l p = 0) (h2 : s.length = l.length) (h3 : ∀ i, i < s.length → spOK l s i) {i : Nat} (hi : i < s.length) (h4 : badS l p (s.getD i dS)) : ckQ l p s = 2 := by
  unfold ckQ; rw [if_neg (by simp [h]), if_neg (by simp [h2]), if_neg (fun hh => hh h3), if_pos ⟨i, hi, h4⟩]
theorem ckQ_c (h : gvQ l p = 0) (h2 : s.length = l.length) (h3 : ∀ i, i < s.length → spOK l s i) (h4 : ∀ i, i < s.length → ¬ badS l p (s.getD i dS)) {i k : Nat} (hi : i < s.length) (hk : k < i) (h5 : cfS l p (s.getD i dS) (s.getD k dS)) : ckQ l p s = 10 := by
  unfold ckQ; rw [if_neg (by simp [h]), if_neg (by simp [h2]), if_neg (fun hh => hh h3), if_neg (fun ⟨i, hi, hb⟩ => h4 i hi hb), if_pos ⟨i, hi, k, hk, h5⟩]
theorem ckQ_0 (h : gvQ l p = 0) (h2 : s.length = l.length) (h3 : ∀ i, i < s.length → spOK l s i) (h4 : ∀ i, i < s.length → ¬ badS l p (s.getD i dS)) (h5 : ∀ i, i < s.length → ∀ k, k < i → ¬ cfS l p (s.getD i dS) (s.getD k dS)) : ckQ l p s = 0 := by
  unfold ckQ; rw [if_neg (by simp [h]), if_neg (by simp [h2]), if_neg (fun hh => hh h3), if_neg (fun ⟨i, hi, hb⟩ => h4 i hi hb), if_neg (fun ⟨i, hi, k, hk, hb⟩ => h5 i hi k hk hb)]
theorem ckQ_inv (h : ckQ l p s = 0) : gvQ l p = 0 ∧ s.length = l.length ∧ (∀ i, i < s.length → spOK l s i) ∧ (∀ i, i < s.length → ¬ badS l p (s.getD i dS)) ∧ ∀ i, i < s.length → ∀ k, k < i → ¬ cfS l p (s.getD i dS) (s.getD k dS) := by
  unfold ckQ at h
  split at h
  · rename_i h1; exact absurd h h1
  · rename_i h1
    split at h
    · cases h
    · rename_i h2
      split at h
      · cases h
      · rename_i h3
        split at h
        · cases h
        · rename_i h4
          split at h
          · cases h
          · rename_i h5
            exact ⟨Classical.byContradiction h1, Classical.byContradiction h2, Classical.byContradiction h3, fun i hi hb => h4 ⟨i, hi, hb⟩, fun i hi k hk hb => h5 ⟨i, hi, k, hk, hb⟩⟩
end
/-- The item of a spot that is fine. -/
theorem spOK_fnd {l : List It} {s : List Sp} (hl : ∀ i, i < l.length → iOK l i) {i : Nat} (h : spOK l s i) : ∃ j, j < l.length ∧ fnd l (s.getD i dS).1 = l.getD j dI ∧ (l.getD j dI).1 = (s.getD i dS).1 := by
  obtain ⟨⟨j, h1, h2⟩, _⟩ := h
  refine ⟨j, h1, fnd_at h1 h2 fun k hk hh => ?_, h2⟩
  exact (hl j h1).2.2.2 k hk (hh.trans h2.symm)

/-- The number of plates: one more than the greatest. -/
def plN (s : List Sp) : Nat → Int
  | 0 => 0
  | i + 1 => max (plN s i) ((s.getD i dS).2.1 + 1)
/-- The sum of areas. -/
def arS (l : List It) : Nat → Int
  | 0 => 0
  | i + 1 => arS l i + (l.getD i dI).2.1 * (l.getD i dI).2.2
/-- The Ids on a plate. -/
def onI (s : List Sp) (k : Int) : Nat → List Int
  | 0 => []
  | i + 1 => if (s.getD i dS).2.1 = k then onI s k i ++ [(s.getD i dS).1] else onI s k i
theorem onI_len (s : List Sp) (k : Int) : ∀ i, (onI s k i).length ≤ i := by
  intro i
  induction i with
  | zero => simp [onI]
  | succ i ih => unfold onI; split
                 · simp only [List.length_append, List.length_singleton]; omega
                 · omega
/-- The least number of plates that the areas need. -/
def lwV (l : List It) (p : It) : Int := if arS l l.length = 0 then 0 else (arS l l.length + (p.1 - 2 * p.2.2) * (p.2.1 - 2 * p.2.2) - 1).tdiv ((p.1 - 2 * p.2.2) * (p.2.1 - 2 * p.2.2))
/-- One item comes before another one. -/
def bfI (a b : It) : Prop := b.2.2 < a.2.2 ∨ a.2.2 = b.2.2 ∧ (b.2.1 < a.2.1 ∨ a.2.1 = b.2.1 ∧ a.1 < b.1)
instance (a b : It) : Decidable (bfI a b) := by unfold bfI; infer_instance
end Go.Proofs.Ytkoecjhjdckgeaa
