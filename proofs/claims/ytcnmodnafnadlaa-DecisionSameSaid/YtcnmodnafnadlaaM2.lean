/- A list in strict order is the only sorted one of its rearrangements. No condition. -/
import Derived.Sort.LotA
namespace Go.Abs
open Go
theorem sort_canon {α : Type} [Inhabited α] {lt : α → α → Bool} (hasym : ∀ x y, lt x y = true → lt y x = false) {xs D : List α} (hD : D.Pairwise fun x y => lt x y = true) (hp : xs.Perm D) {d' : Array α} (hP : Sort.PermIn 0 xs.toArray.size xs.toArray d') (hS : Sort.SortedIn lt 0 xs.toArray.size d') : d' = D.toArray := by
  obtain ⟨hsz, _, hperm⟩ := hP
  have e1 : d'.extract 0 xs.toArray.size = d' := by rw [← hsz]; exact Array.extract_size
  rw [e1, Array.extract_size] at hperm
  have hp2 : d'.toList.Perm D := hperm.trans (by simpa using hp)
  have hirr : ∀ x, lt x x = true → False := fun x h => by have := hasym x x h; rw [h] at this; cases this
  have key : d'.toList = D := by
    refine List.Perm.eq_of_pairwise (le := fun x y => (!lt y x) = true) ?_ ?_ ?_ hp2
    · intro a b ha hb h1 h2
      simp only [Bool.not_eq_true'] at h1 h2
      have ha' : a ∈ D := hp2.mem_iff.1 ha
      obtain ⟨i, hi, rfl⟩ := List.getElem_of_mem ha'
      obtain ⟨j, hj, rfl⟩ := List.getElem_of_mem hb
      rw [List.pairwise_iff_getElem] at hD
      rcases Nat.lt_trichotomy i j with h | h | h
      · rw [hD i j hi hj h] at h2; cases h2
      · subst h; rfl
      · rw [hD j i hj hi h] at h1; cases h1
    · rw [List.pairwise_iff_getElem]
      intro i j hi hj hij
      have hi' : i < d'.size := by simpa using hi
      have hj' : j < d'.size := by simpa using hj
      have := hS i j (Nat.zero_le _) hij (by omega)
      rw [getElem!_pos d' j hj', getElem!_pos d' i hi'] at this
      simpa using this
    · exact hD.imp fun {x y} h => by simp [hasym x y h]
  rw [← key]
end Go.Abs
