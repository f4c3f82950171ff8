/- Insertion into a sorted list, by the years of numbered things. No condition. -/
import Derived.Test.YticiimmfjdkimaaA23
namespace Go.Abs
open Go
set_option linter.unusedSimpArgs false
set_option linter.unusedVariables false

/-- Natural numbers as the code has them. -/
def nats (l : List Nat) : List Int := l.map fun x : Nat => (x : Int)
theorem nats_len (l : List Nat) : (nats l).length = l.length := by simp [nats]
theorem nats_append (l m : List Nat) : nats (l ++ m) = nats l ++ nats m := by simp [nats]
theorem nats_get {l : List Nat} {i : Nat} (h : i < l.length) : (nats l).getD i 0 = ((l.getD i 0 : Nat) : Int) := by simp [nats, List.getD, h]
theorem nats_take (l : List Nat) (i : Nat) : nats (l.take i) = (nats l).take i := by simp [nats, List.map_take]
theorem nats_drop (l : List Nat) (i : Nat) : nats (l.drop i) = (nats l).drop i := by simp [nats, List.map_drop]

/-- Where v is inserted: behind the last one of the first k that is not above it. -/
def cut (y : List Int) (v : Int) (out : List Nat) : Nat → Nat
  | 0 => 0
  | k + 1 => if v < y.getD (out.getD k 0) 0 then cut y v out k else k + 1
def ins (y : List Int) (out : List Nat) (i : Nat) : List Nat := out.take (cut y (y.getD i 0) out out.length) ++ i :: out.drop (cut y (y.getD i 0) out out.length)
def ordL (y : List Int) : Nat → List Nat
  | 0 => []
  | i + 1 => ins y (ordL y i) i

theorem cut_le (y : List Int) (v : Int) (out : List Nat) : ∀ k, cut y v out k ≤ k := by
  intro k
  induction k with
  | zero => exact Nat.le_refl _
  | succ k ih =>
    unfold cut
    split
    · omega
    · exact Nat.le_refl _
theorem cut_above (y : List Int) (v : Int) (out : List Nat) : ∀ k j, cut y v out k ≤ j → j < k → v < y.getD (out.getD j 0) 0 := by
  intro k
  induction k with
  | zero => intro j _ h; omega
  | succ k ih =>
    intro j h1 h2
    unfold cut at h1
    split at h1
    · rename_i hv
      by_cases hj : j = k
      · subst hj; exact hv
      · exact ih j h1 (by omega)
    · omega
theorem cut_below (y : List Int) (v : Int) (out : List Nat) : ∀ k, 0 < cut y v out k → y.getD (out.getD (cut y v out k - 1) 0) 0 ≤ v := by
  intro k
  induction k with
  | zero => intro h; simp [cut] at h
  | succ k ih =>
    intro h
    unfold cut at h ⊢
    split at h
    · rename_i hv
      rw [if_pos hv]
      exact ih h
    · rename_i hv
      rw [if_neg hv]
      simp only [Nat.add_sub_cancel]
      omega
theorem ins_len (y : List Int) (out : List Nat) (i : Nat) : (ins y out i).length = out.length + 1 := by
  have := cut_le y (y.getD i 0) out out.length
  simp only [ins, List.length_append, List.length_take, List.length_cons, List.length_drop]; omega
theorem ordL_len (y : List Int) : ∀ i, (ordL y i).length = i := by
  intro i
  induction i with
  | zero => rfl
  | succ i ih => rw [ordL, ins_len, ih]
theorem ins_perm (y : List Int) (out : List Nat) (i : Nat) : (ins y out i).Perm (i :: out) := by
  unfold ins
  refine List.perm_middle.trans ?_
  rw [List.take_append_drop]
theorem ordL_perm (y : List Int) : ∀ i, (ordL y i).Perm (List.range i) := by
  intro i
  induction i with
  | zero => exact .nil
  | succ i ih =>
    rw [ordL, List.range_succ]
    refine (ins_perm y _ i).trans ?_
    refine (List.Perm.cons i ih).trans ?_
    exact (List.perm_append_singleton i (List.range i)).symm
theorem ordL_mem {y : List Int} {i x : Nat} : x ∈ ordL y i ↔ x < i := by rw [(ordL_perm y i).mem_iff, List.mem_range]

/-- Before another one: earlier, or of the same year and with a smaller number. -/
def Bef (y : List Int) (a b : Nat) : Prop := y.getD a 0 < y.getD b 0 ∨ (y.getD a 0 = y.getD b 0 ∧ a < b)
theorem ordL_sorted (y : List Int) : ∀ i, (ordL y i).Pairwise (Bef y) := by
  intro i
  induction i with
  | zero => exact .nil
  | succ i ih =>
    rw [ordL]
    unfold ins
    obtain ⟨k, hk⟩ : ∃ k, k = cut y (y.getD i 0) (ordL y i) (ordL y i).length := ⟨_, rfl⟩
    have hle : k ≤ (ordL y i).length := by rw [hk]; exact cut_le _ _ _ _
    have ha := cut_above y (y.getD i 0) (ordL y i) (ordL y i).length
    have hb := cut_below y (y.getD i 0) (ordL y i) (ordL y i).length
    rw [← hk] at ha hb ⊢
    have hpw := List.pairwise_iff_getElem.1 ih
    have hlt : ∀ x ∈ ordL y i, x < i := fun x hx => ordL_mem.1 hx
    have bel : ∀ x ∈ (ordL y i).take k, Bef y x i := by
      intro x hx
      obtain ⟨j, hj, rfl⟩ := List.getElem_of_mem hx
      rw [List.length_take] at hj
      rw [List.getElem_take]
      have h1 := hb (by omega)
      have hk1 : k - 1 < (ordL y i).length := by omega
      have hji : j < (ordL y i).length := by omega
      have e1 : (ordL y i).getD (k - 1) 0 = (ordL y i)[k - 1] := by simp [List.getD, hk1]
      rw [e1] at h1
      have hlt2 := hlt _ (List.getElem_mem hji)
      by_cases hjk : j = k - 1
      · subst hjk
        unfold Bef
        omega
      · have := hpw j (k - 1) hji hk1 (by omega)
        unfold Bef at this ⊢
        omega
    have abv : ∀ x ∈ (ordL y i).drop k, Bef y i x := by
      intro x hx
      obtain ⟨j, hj, rfl⟩ := List.getElem_of_mem hx
      rw [List.length_drop] at hj
      rw [List.getElem_drop]
      have := ha (k + j) (by omega) (by omega)
      have hkj : k + j < (ordL y i).length := by omega
      have e1 : (ordL y i).getD (k + j) 0 = (ordL y i)[k + j] := by simp [List.getD, hkj]
      rw [e1] at this
      exact .inl this
    have hsplit : ((ordL y i).take k ++ (ordL y i).drop k).Pairwise (Bef y) := by rw [List.take_append_drop]; exact ih
    obtain ⟨p1, p2, p3⟩ := List.pairwise_append.1 hsplit
    refine List.pairwise_append.2 ⟨p1, List.pairwise_cons.2 ⟨abv, p2⟩, fun a ha' b hb' => ?_⟩
    rcases List.mem_cons.1 hb' with rfl | hb'
    · exact bel a ha'
    · exact p3 a ha' b hb'
end Go.Abs
