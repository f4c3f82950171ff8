/- The latest type of a hoard, in plain terms. No condition. -/
import Derived.Test.YtnekkkjedmlloaaG1
namespace Go.Abs
open Go
set_option linter.unusedSimpArgs false
set_option linter.unusedVariables false

/-- The place of a type among entries: the first one that has it; -1 if there is none. -/
def idx (t : List (Int × Int)) (k : Int) : Int := findI (fun i => decide ((t.getD i (0, 0)).1 = k)) t.length
/-- The value of a type. -/
def val (t : List (Int × Int)) (k : Int) : Option Int := if 0 ≤ idx t k then some (t.getD (idx t k).toNat (0, 0)).2 else none
theorem findI_lt {p : Nat → Bool} : ∀ {n : Nat}, 0 ≤ findI p n → (findI p n).toNat < n ∧ p (findI p n).toNat = true ∧ ∀ j, j < (findI p n).toNat → p j = false := by
  intro n h
  rw [findI_nonneg, List.any_eq_true] at h
  obtain ⟨x, hx, hp⟩ := h
  rw [List.mem_range] at hx
  -- the least one
  have : ∃ m, m < n ∧ p m = true ∧ ∀ j, j < m → p j = false := by
    induction x using Nat.strongRecOn with
    | _ x ih =>
      by_cases hall : ∀ j, j < x → p j = false
      · exact ⟨x, hx, hp, hall⟩
      · have : ∃ j, j < x ∧ p j = true := by
          apply Classical.byContradiction
          intro hn
          apply hall
          intro j hj
          cases hpj : p j with
          | false => rfl
          | true => exact absurd ⟨j, hj, hpj⟩ hn
        obtain ⟨j, hj, hpj⟩ := this
        exact ih j hj (by omega) hpj
  obtain ⟨m, h1, h2, h3⟩ := this
  have e := findI_at h2 h3 h1
  rw [e]
  simp only [Int.toNat_natCast]
  exact ⟨h1, h2, h3⟩
theorem idx_spec {t : List (Int × Int)} {k : Int} (h : 0 ≤ idx t k) : (idx t k).toNat < t.length ∧ (t.getD (idx t k).toNat (0, 0)).1 = k ∧ ∀ j, j < (idx t k).toNat → (t.getD j (0, 0)).1 ≠ k := by
  obtain ⟨h1, h2, h3⟩ := findI_lt h
  exact ⟨h1, of_decide_eq_true h2, fun j hj => of_decide_eq_false (h3 j hj)⟩
theorem idx_none {t : List (Int × Int)} {k : Int} (h : ¬ 0 ≤ idx t k) : ∀ j, j < t.length → (t.getD j (0, 0)).1 ≠ k := by
  intro j hj hk
  apply h
  unfold idx
  rw [findI_nonneg, List.any_eq_true]
  exact ⟨j, List.mem_range.2 hj, decide_eq_true hk⟩
theorem idx_at {t : List (Int × Int)} {k : Int} {i : Nat} (hi : i < t.length) (hk : (t.getD i (0, 0)).1 = k) (h : ∀ j, j < i → (t.getD j (0, 0)).1 ≠ k) : idx t k = i := findI_at (decide_eq_true hk) (fun j hj => decide_eq_false (h j hj)) hi

/-- Strictly ascending types. -/
def Asc1 (t : List (Int × Int)) : Prop := ∀ i, 0 < i → i < t.length → (t.getD (i - 1) (0, 0)).1 < (t.getD i (0, 0)).1
theorem asc1_lt {t : List (Int × Int)} (h : Asc1 t) : ∀ {d i : Nat}, i + d + 1 < t.length → (t.getD i (0, 0)).1 < (t.getD (i + d + 1) (0, 0)).1 := by
  intro d
  induction d with
  | zero => intro i hi; have := h (i + 1) (by omega) hi; simpa using this
  | succ d ih =>
    intro i hi
    have h1 := ih (i := i) (by omega)
    have h2 := h (i + (d + 1) + 1) (by omega) hi
    rw [show i + (d + 1) + 1 - 1 = i + d + 1 by omega] at h2
    omega
theorem asc1_inj {t : List (Int × Int)} (h : Asc1 t) {i j : Nat} (hi : i < t.length) (hj : j < t.length) (e : (t.getD i (0, 0)).1 = (t.getD j (0, 0)).1) : i = j := by
  rcases Nat.lt_trichotomy i j with hlt | rfl | hlt
  · have := asc1_lt h (i := i) (d := j - i - 1) (by omega)
    rw [show i + (j - i - 1) + 1 = j by omega] at this
    omega
  · rfl
  · have := asc1_lt h (i := j) (d := i - j - 1) (by omega)
    rw [show j + (i - j - 1) + 1 = i by omega] at this
    omega
theorem asc1_len {t : List (Int × Int)} (h : Asc1 t) {lo hi : Int} (hr : ∀ i, i < t.length → lo ≤ (t.getD i (0, 0)).1 ∧ (t.getD i (0, 0)).1 ≤ hi) : ∀ i, i < t.length → lo + i ≤ (t.getD i (0, 0)).1 := by
  intro i
  induction i with
  | zero => intro h0; have := (hr 0 h0).1; omega
  | succ i ih =>
    intro hi'
    have h1 := ih (by omega)
    have h2 := h (i + 1) (by omega) hi'
    rw [Nat.add_sub_cancel] at h2
    omega

/-- The latest type and its year: x is what was found so far, of type 0 if nothing. -/
def latS (y : Int) (k : Int) (s : Int × Int) : Int × Int := if s.1 = 0 ∨ s.2 ≤ y then (k, y) else s
def lat (t : List (Int × Int)) (coins : List (Int × Int)) : Nat → Option (Int × Int)
  | 0 => some (0, 0)
  | i + 1 => match lat t coins i, val t (coins.getD i (0, 0)).1 with
    | some s, some y => some (latS y (coins.getD i (0, 0)).1 s)
    | _, _ => none
theorem lat_none {t coins : List (Int × Int)} {i : Nat} (h : lat t coins i = none) : ∀ d, lat t coins (i + d) = none := by
  intro d
  induction d with
  | zero => exact h
  | succ d ih => rw [← Nat.add_assoc, lat, ih]
/-- What is found is one of the coins' types, with its value. -/
theorem lat_some {t coins : List (Int × Int)} (hc : ∀ j, j < coins.length → (coins.getD j (0, 0)).1 ≠ 0) : ∀ {i : Nat} {s : Int × Int}, i ≤ coins.length → lat t coins i = some s → (∀ j, j < i → ∃ y, val t (coins.getD j (0, 0)).1 = some y ∧ y ≤ s.2) ∧ (0 < i → s.1 ≠ 0 ∧ val t s.1 = some s.2 ∧ ∃ j, j < i ∧ s.1 = (coins.getD j (0, 0)).1) := by
  intro i
  induction i with
  | zero => intro s _ h; exact ⟨fun j hj => absurd hj (Nat.not_lt_zero _), fun h => absurd h (Nat.lt_irrefl _)⟩
  | succ i ih =>
    intro s hi h
    rw [lat] at h
    split at h
    · rename_i s0 y h0 hy
      cases h
      obtain ⟨p1, p2⟩ := ih (by omega) h0
      by_cases hc2 : s0.1 = 0 ∨ s0.2 ≤ y
      · have e : latS y (coins.getD i (0, 0)).1 s0 = ((coins.getD i (0, 0)).1, y) := by unfold latS; rw [if_pos hc2]
        rw [e]
        refine ⟨fun j hj => ?_, fun _ => ⟨hc i (by omega), hy, i, by omega, rfl⟩⟩
        rcases Nat.lt_succ_iff_lt_or_eq.1 hj with hj | rfl
        · obtain ⟨z, z1, z2⟩ := p1 j hj
          have := p2 (by omega)
          exact ⟨z, z1, by simp only; omega⟩
        · exact ⟨y, hy, Int.le_refl _⟩
      · have e : latS y (coins.getD i (0, 0)).1 s0 = s0 := by unfold latS; rw [if_neg hc2]
        rw [e]
        have h0i : 0 < i := by
          rcases Nat.eq_zero_or_pos i with hz | hz
          · subst hz; simp [lat] at h0; subst h0; simp at hc2
          · exact hz
        obtain ⟨q1, q2, j, q3, q4⟩ := p2 h0i
        refine ⟨fun j hj => ?_, fun _ => ⟨q1, q2, j, by omega, q4⟩⟩
        rcases Nat.lt_succ_iff_lt_or_eq.1 hj with hj | rfl
        · exact p1 j hj
        · exact ⟨y, hy, by omega⟩
    · cases h
end Go.Abs
