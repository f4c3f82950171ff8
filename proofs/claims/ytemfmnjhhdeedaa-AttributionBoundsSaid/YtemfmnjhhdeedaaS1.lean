/- The library's sort of whole numbers, as a call on abstract values. No condition but that the program has these functions of Go's library. -/
import Derived.Test.YtemfmnjhhdeedaaA23
import Derived.Shelf.Sort.Plain
namespace Go.Abs
open Go Go.Shelf Go.Proofs
set_option linter.unusedSimpArgs false
set_option linter.unusedVariables false

/-- Numbers in order. -/
def srt (l : List Int) : List Int := l.mergeSort fun x y => decide (x ≤ y)
theorem srt_perm (l : List Int) : (srt l).Perm l := List.mergeSort_perm _ _
theorem srt_len (l : List Int) : (srt l).length = l.length := (srt_perm l).length_eq
theorem srt_sorted (l : List Int) : (srt l).Pairwise (· ≤ ·) := by
  have := List.pairwise_mergeSort (le := fun x y : Int => decide (x ≤ y)) (fun a b c => by simp only [decide_eq_true_eq]; omega) (fun a b => by simp only [Bool.or_eq_true, decide_eq_true_eq]; omega) l
  exact this.imp fun h => of_decide_eq_true h

theorem s_sort {P : Program} {ρ : Ren} (Ly : Lays.n189 P ρ) {h : AH} {b n : Nat} {cap : Option Nat} {zs : List Int} {rest : List AV} (hb : h.blk b = some (i64s zs ++ rest)) (hn : n = zs.length) (hsz : zs.length < 4611686018427387904) (hok : callOK P (ρ.f 189) = true) :
    ACalls P (ρ.f 189) [.msl b 0 n cap] h fun r h' => r = .tup [] ∧ h' = h.put b (i64s (srt zs) ++ rest) := by
  subst hn
  refine ⟨hok, fun s vs w hv hs => ?_⟩
  obtain ⟨v, hv0, hr⟩ := hv.at_ (j := 0) rfl
  have hvs : vs = [v] := by
    match vs, hv.1, hv0 with
    | [u], _, h => simp at h; rw [h]
  subst hvs
  obtain ⟨c, k, rfl, hc, hnk, hmax, hq⟩ := hr.msl_inv
  obtain ⟨c', ws, e, a1, a2, a3, a4, a5, a6⟩ := hs.blk b _ hb
  rw [hc] at a1; cases a1
  have hcell : ∀ j, (hj : j < zs.length) → ws[j]? = some (.int .i64 zs[j]) := by
    intro j hj
    obtain ⟨u, u1, u2, u3⟩ := a4 j (.int .i64 zs[j]) (by rw [List.getElem?_append_left (by rw [i64s_len]; exact hj)]; simp [i64s, hj])
    obtain ⟨rfl, _⟩ := u3.int_inv
    exact u1
  have hH : Sort.Holds (Value.int .i64) w c 0 zs.toArray := by
    intro j hj
    have hj' : j < zs.length := by simpa using hj
    refine ⟨?_, ?_⟩
    · have : w.cell? ⟨c, 0 + j, none⟩ = ws[j]? := by
        rw [Nat.zero_add]
        simp [World.cell?, a2]
      rw [this, hcell j hj']
      simp [hj']
    · simp [World.frozen?, a2]
  have hlt : c < w.heap.size := (Array.getElem?_eq_some_iff.1 a2).1
  refine (Any.slices_Sort_int Ly c 0 k zs w hH hlt hsz).mono fun en w' hen => ?_
  obtain ⟨rfl, n, os, rfl⟩ := hen
  have hus : (Sort.putCells (Value.int .i64) 0 (zs.mergeSort fun x y => decide (x ≤ y)).toArray ws).size = ws.size := by simp [Sort.putCells]
  have hget : ∀ j, (Sort.putCells (Value.int .i64) 0 (srt zs).toArray ws)[j]? = (ws[j]?).map fun x => if j < (srt zs).length then Value.int .i64 ((srt zs).getD j 0) else x := by
    intro j
    simp only [Sort.putCells, Array.getElem?_mapIdx, Nat.zero_le, true_and, Nat.zero_add, Nat.sub_zero, List.size_toArray]
    congr 1
    funext x
    split
    · rename_i hj; simp [List.getD, hj]
    · rfl
  have hinr : ∀ x ∈ zs, InR .i64 x := by
    intro x hx
    obtain ⟨j, hj, rfl⟩ := List.getElem_of_mem hx
    obtain ⟨u, u1, u2, u3⟩ := a4 j (.int .i64 zs[j]) (by rw [List.getElem?_append_left (by rw [i64s_len]; exact hj)]; simp [i64s, hj])
    exact u3.int_inv.2
  have l1 := hs.setBlk (us := Sort.putCells (Value.int .i64) 0 (srt zs).toArray ws) hb hc a2 (cells' := i64s (srt zs) ++ rest)
    (by
      have : (Sort.putCells (Value.int .i64) 0 (srt zs).toArray ws).size = ws.size := hus
      rw [this]
      simp only [List.length_append, i64s_len, srt_len] at a3 ⊢
      exact a3)
    (fun j x hx => by
      rw [hget]
      by_cases hj : j < (srt zs).length
      · rw [List.getElem?_append_left (by rw [i64s_len]; exact hj)] at hx
        have hjz : j < zs.length := by rw [← srt_len]; exact hj
        have hx' : x = .int .i64 ((srt zs).getD j 0) := by
          simp [i64s, hj] at hx
          rw [← hx]; simp [List.getD, hj]
        subst hx'
        rw [hcell j hjz]
        refine ⟨_, rfl, ?_, ?_⟩
        · simp only [hj, if_true]; rfl
        · simp only [hj, if_true]
          exact .int .i64 _ (hinr _ ((srt_perm zs).mem_iff.1 (mem_getD hj)))
      · have hx2 : (i64s zs ++ rest)[j]? = some x := by
          have hjz : ¬ j < zs.length := by rw [← srt_len]; exact hj
          rw [List.getElem?_append_right (by rw [i64s_len]; omega)] at hx
          rw [List.getElem?_append_right (by rw [i64s_len]; omega)]
          rw [i64s_len] at hx ⊢
          rw [srt_len] at hx
          exact hx
        obtain ⟨u, u1, u2, u3⟩ := a4 j x hx2
        rw [u1]
        refine ⟨u, ?_, u2, u3⟩
        simp only [Option.map_some]
        rw [if_neg hj])
  refine ⟨s, .tup [], _, _, Sg.le.refl s, (l1.draw (w.drawn + n)).later ?_, rfl, .tup [] [] rfl (by simp), rfl, rfl⟩
  have hset : (w.setRow c (Sort.putCells (Value.int .i64) 0 (srt zs).toArray ws)).heap = w.heap.modify c (Sort.onCells (Sort.putCells (Value.int .i64) 0 (srt zs).toArray)) := by
    unfold World.setRow
    apply Array.ext
    · simp
    · intro i h1 h2
      simp only [Array.getElem_modify]
      split
      · rename_i hci
        subst hci
        have : w.heap[c] = .cells ws e (0, 0) := by
          rw [Array.getElem?_eq_getElem hlt] at a2; exact Option.some.inj a2
        simp [this, Sort.onCells]
      · rfl
  refine ⟨fun k hk => ?_, ?_, rfl, rfl, rfl⟩
  · have hk2 : k < (w.setRow c (Sort.putCells (Value.int .i64) 0 (srt zs).toArray ws)).heap.size := hk
    show ((w.heap.modify c (Sort.onCells (Sort.putCells (Value.int .i64) 0 (srt zs).toArray))) ++ os)[k]? = _
    rw [hset] at hk2
    rw [Array.getElem?_append_left hk2]
    show _ = (w.setRow c (Sort.putCells (Value.int .i64) 0 (srt zs).toArray ws)).heap[k]?
    rw [hset]
  · show (w.setRow c (Sort.putCells (Value.int .i64) 0 (srt zs).toArray ws)).heap.size ≤ ((w.heap.modify c (Sort.onCells (Sort.putCells (Value.int .i64) 0 (srt zs).toArray))) ++ os).size
    rw [hset]
    simp
end Go.Abs
