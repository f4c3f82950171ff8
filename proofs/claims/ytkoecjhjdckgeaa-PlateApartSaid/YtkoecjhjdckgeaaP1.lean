/- Items, pages and spots: what the functions of this seat answer. No program in sight. -/
import Derived.Test.YtkoecjhjdckgeaaA23
namespace Go.Proofs.Ytkoecjhjdckgeaa
open Go Go.Abs
set_option linter.unusedSimpArgs false
set_option linter.unusedVariables false

/-- An item: its Id, width and height. A page: width, height, margin. -/
abbrev It := Int × Int × Int
/-- A spot: Id, plate, x, y. -/
abbrev Sp := Int × Int × Int × Int
abbrev dI : It := (0, 0, 0)
abbrev dS : Sp := (0, 0, 0, 0)
theorem trs_dropI {l : List It} {i : Nat} (h : i < l.length) : (trs l).drop (i * 3) = I (l.getD i dI).1 :: I (l.getD i dI).2.1 :: I (l.getD i dI).2.2 :: (trs l).drop (i * 3 + 3) := trs_drop h
def spc (p : Sp) : List AV := [I p.1, I p.2.1, I p.2.2.1, I p.2.2.2]
def sps (l : List Sp) : List AV := l.flatMap spc
theorem sps_len (l : List Sp) : (sps l).length = l.length * 4 := by
  induction l with
  | nil => rfl
  | cons p l ih =>
    have : sps (p :: l) = I p.1 :: I p.2.1 :: I p.2.2.1 :: I p.2.2.2 :: sps l := rfl
    rw [this]; simp only [List.length_cons, ih]; omega
theorem sps_drop {l : List Sp} : ∀ {i : Nat}, i < l.length → (sps l).drop (i * 4) = I (l.getD i dS).1 :: I (l.getD i dS).2.1 :: I (l.getD i dS).2.2.1 :: I (l.getD i dS).2.2.2 :: (sps l).drop (i * 4 + 4) := by
  induction l with
  | nil => intro i h; simp at h
  | cons p e ih =>
    intro i h
    have : sps (p :: e) = I p.1 :: I p.2.1 :: I p.2.2.1 :: I p.2.2.2 :: sps e := rfl
    cases i with
    | zero => rfl
    | succ i =>
      rw [this, show (i + 1) * 4 = i * 4 + 1 + 1 + 1 + 1 by omega, List.drop_succ_cons, List.drop_succ_cons, List.drop_succ_cons, List.drop_succ_cons]
      rw [ih (i := i) (by simpa using h)]
      simp
theorem sps_append (xs ys : List Sp) : sps (xs ++ ys) = sps xs ++ sps ys := by simp [sps]
theorem sps_one (p : Sp) : sps [p] = [I p.1, I p.2.1, I p.2.2.1, I p.2.2.2] := rfl
theorem sps_dropn (l : List Sp) (n : Nat) : (sps l).drop (n * 4) = sps (l.drop n) := by
  induction l generalizing n with
  | nil => simp [sps]
  | cons p l ih =>
    cases n with
    | zero => simp
    | succ n =>
      have : sps (p :: l) = I p.1 :: I p.2.1 :: I p.2.2.1 :: I p.2.2.2 :: sps l := rfl
      rw [this, show (n + 1) * 4 = n * 4 + 1 + 1 + 1 + 1 by omega, List.drop_succ_cons, List.drop_succ_cons, List.drop_succ_cons, List.drop_succ_cons, ih, List.drop_succ_cons]
theorem getD_gext {α : Type} (d : α) {xs ys : List α} (h : xs.length = ys.length) (k : ∀ j, j < xs.length → xs.getD j d = ys.getD j d) : xs = ys :=
  List.ext_getElem h fun j h1 h2 => by have := k j h1; simpa [List.getD, h1, h2] using this
theorem getD_gsnoc {α : Type} (d : α) (c : List α) (x : α) (i : Nat) : (c ++ [x]).getD i d = if i < c.length then c.getD i d else if i = c.length then x else d := by
  simp only [List.getD, List.getElem?_append]
  split
  · rfl
  · split
    · rename_i h; subst h; simp
    · rename_i h1 h2
      rw [List.getElem?_eq_none (by simp; omega)]; rfl

/-- An item of a list is fine: its numbers are, and its Id is new. -/
def iOK (l : List It) (i : Nat) : Prop := (1 ≤ (l.getD i dI).1 ∧ (l.getD i dI).1 ≤ 9999) ∧ (1 ≤ (l.getD i dI).2.1 ∧ (l.getD i dI).2.1 ≤ 100) ∧ (1 ≤ (l.getD i dI).2.2 ∧ (l.getD i dI).2.2 ≤ 100) ∧ ∀ k, k < i → (l.getD k dI).1 ≠ (l.getD i dI).1
instance (l : List It) (i : Nat) : Decidable (iOK l i) := by unfold iOK; infer_instance
/-- The error of items. -/
def itQ (l : List It) : Int := if 40 < l.length then 6 else if ∀ i, i < l.length → iOK l i then 0 else 1
theorem itQ_ok {l : List It} (h : itQ l = 0) : l.length ≤ 40 ∧ ∀ i, i < l.length → iOK l i := by
  unfold itQ at h
  split at h
  · cases h
  · split at h
    · exact ⟨by omega, by assumption⟩
    · cases h
theorem itQ_0 {l : List It} (h1 : l.length ≤ 40) (h2 : ∀ i, i < l.length → iOK l i) : itQ l = 0 := by
  unfold itQ; rw [if_neg (by omega), if_pos h2]
theorem itQ_1 {l : List It} (h1 : l.length ≤ 40) {i : Nat} (hi : i < l.length) (h2 : ¬ iOK l i) : itQ l = 1 := by
  unfold itQ; rw [if_neg (by omega), if_neg (fun hh => h2 (hh i hi))]
def pgOK (p : It) : Prop := (20 ≤ p.1 ∧ p.1 ≤ 400) ∧ (20 ≤ p.2.1 ∧ p.2.1 ≤ 400) ∧ (0 ≤ p.2.2 ∧ p.2.2 ≤ 10)
instance (p : It) : Decidable (pgOK p) := by unfold pgOK; infer_instance
/-- The error of items and a page. -/
def gvQ (l : List It) (p : It) : Int := if itQ l = 0 ∧ ¬ pgOK p then 1 else itQ l
theorem gvQ_ok {l : List It} {p : It} (h : gvQ l p = 0) : itQ l = 0 ∧ pgOK p := by
  unfold gvQ at h
  split at h
  · cases h
  · rename_i hh
    exact ⟨h, Classical.byContradiction fun hp => hh ⟨h, hp⟩⟩
/-- An item is too large for the page. -/
def big (p x : It) : Prop := p.1 - 2 * p.2.2 < x.2.1 ∨ p.2.1 - 2 * p.2.2 < x.2.2
instance (p x : It) : Decidable (big p x) := by unfold big; infer_instance
/-- The error of items that may be too large. -/
def lgQ (l : List It) (p : It) : Int := if gvQ l p ≠ 0 then gvQ l p else if ∃ i, i < l.length ∧ big p (l.getD i dI) then 2 else 0
theorem lgQ_ok {l : List It} {p : It} (h : lgQ l p = 0) : gvQ l p = 0 ∧ ∀ i, i < l.length → ¬ big p (l.getD i dI) := by
  unfold lgQ at h
  split at h
  · rename_i h1; exact absurd h h1
  · rename_i h1
    split at h
    · cases h
    · rename_i h2
      exact ⟨Classical.byContradiction h1, fun i hi hb => h2 ⟨i, hi, hb⟩⟩
/-- An item at a spot is within the inner page. -/
def inn (p x : It) (s : Sp) : Prop := p.2.2 ≤ s.2.2.1 ∧ p.2.2 ≤ s.2.2.2 ∧ s.2.2.1 ≤ p.1 - p.2.2 - x.2.1 ∧ s.2.2.2 ≤ p.2.1 - p.2.2 - x.2.2
instance (p x : It) (s : Sp) : Decidable (inn p x s) := by unfold inn; infer_instance
/-- Where the next item is laid, and the lowest edge of the plate so far. -/
def nxS (p : It) (x prev : It) (a : Sp) (low : Int) : Sp × Int :=
  let a1 : Sp := (x.1, a.2.1, a.2.2.1 + prev.2.1 + p.2.2, a.2.2.2)
  let a2 : Sp := (x.1, a.2.1, p.2.2, low + p.2.2)
  let a3 : Sp := (x.1, a.2.1 + 1, p.2.2, p.2.2)
  if inn p x a1 then (a1, low) else if inn p x a2 then (a2, low + p.2.2) else (a3, p.2.2)
/-- The spot of item i and the lowest edge behind it. -/
def laS (l : List It) (p : It) : Nat → Sp × Int
  | 0 => (((l.getD 0 dI).1, 0, p.2.2, p.2.2), max p.2.2 (p.2.2 + (l.getD 0 dI).2.2))
  | i + 1 => let s := nxS p (l.getD (i + 1) dI) (l.getD i dI) (laS l p i).1 (laS l p i).2; (s.1, max s.2 (s.1.2.2.2 + (l.getD (i + 1) dI).2.2))
/-- The layout. -/
def lay (l : List It) (p : It) (n : Nat) : List Sp := (List.range n).map fun i => (laS l p i).1
theorem lay_len (l : List It) (p : It) (n : Nat) : (lay l p n).length = n := by simp [lay]
theorem lay_succ (l : List It) (p : It) (n : Nat) : lay l p (n + 1) = lay l p n ++ [(laS l p n).1] := by simp [lay, List.range_succ]
theorem lay_get {l : List It} {p : It} {n i : Nat} (h : i < n) : (lay l p n).getD i dS = (laS l p i).1 := by simp [lay, List.getD, h]
/-- What holds of all spots of a layout. -/
theorem laS_ok {l : List It} {p : It} (hp : pgOK p) (hi : ∀ i, i < l.length → iOK l i) (hb : ∀ i, i < l.length → ¬ big p (l.getD i dI)) : ∀ i, i < l.length →
    (laS l p i).1.1 = (l.getD i dI).1 ∧ (0 ≤ (laS l p i).1.2.1 ∧ (laS l p i).1.2.1 ≤ i) ∧ inn p (l.getD i dI) (laS l p i).1 ∧ ((laS l p i).1.2.2.2 + (l.getD i dI).2.2 ≤ (laS l p i).2 ∧ p.2.2 ≤ (laS l p i).2 ∧ (laS l p i).2 ≤ p.2.1 - p.2.2) := by
  intro i
  obtain ⟨p1, p2, p3⟩ := hp
  induction i with
  | zero =>
    intro h
    have h1 := hi 0 h
    have h2 := hb 0 h
    unfold iOK at h1
    unfold big at h2
    unfold laS inn
    refine ⟨rfl, ⟨Int.le_refl _, Int.le_refl _⟩, ?_, ?_⟩ <;> simp only <;> omega
  | succ i ih =>
    intro h
    obtain ⟨i1, i2, i3, i4⟩ := ih (by omega)
    have h1 := hi (i + 1) h
    have h2 := hb (i + 1) h
    have h3 := hi i (by omega)
    unfold iOK at h1 h3
    unfold big at h2
    unfold laS nxS
    simp only
    split
    · rename_i hc
      refine ⟨rfl, by simp only; omega, hc, ?_⟩
      unfold inn at hc
      simp only at hc ⊢
      omega
    · split
      · rename_i hc
        refine ⟨rfl, by simp only; omega, hc, ?_⟩
        unfold inn at hc
        simp only at hc ⊢
        omega
      · refine ⟨rfl, by simp only; omega, ?_, ?_⟩
        · unfold inn; simp only; omega
        · simp only; omega
end Go.Proofs.Ytkoecjhjdckgeaa
