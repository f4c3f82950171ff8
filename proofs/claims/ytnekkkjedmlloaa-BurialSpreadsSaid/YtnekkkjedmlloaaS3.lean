/- The library's sort of an empty list. No condition but that the program has these functions of Go's library. -/
import Derived.Test.YtnekkkjedmlloaaS1
import Derived.Shelf.Slices.In.SortNone
namespace Go.Abs
open Go Go.Shelf Go.Proofs

theorem s_sort0 {P : Program} {ρ : Ren} (Ly : Lays.n189 P ρ) (h : AH) (nl : Bool) (tl : Tail) (hok : callOK P (ρ.f 189) = true) : ACalls P (ρ.f 189) [.sl nl 0 [] tl] h fun r h' => r = .tup [] ∧ h' = h := by
  refine ⟨hok, fun s vs w hv hs => ?_⟩
  obtain ⟨v, hv0, hr⟩ := hv.at_ (j := 0) rfl
  have hvs : vs = [v] := by
    match vs, hv.1, hv0 with
    | [u], _, h => simp at h; rw [h]
  subst hvs
  obtain ⟨a, cap, ws, rfl, _⟩ := hr.sl_inv
  refine (Any.slices_Sort_int_none Ly a cap w).mono fun en w' hen => ?_
  obtain ⟨rfl, rfl⟩ := hen
  exact ⟨s, .tup [], _, h, Sg.le.refl s, hs, rfl, .tup [] [] rfl (by simp), rfl, rfl⟩
end Go.Abs
