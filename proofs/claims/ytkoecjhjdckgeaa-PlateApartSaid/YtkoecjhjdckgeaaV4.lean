import Derived.Test.YtkoecjhjdckgeaaProg
import Derived.Shelf.SlSortCmp.QuietGrown
import Derived.Lib.Small
import Derived.Lib.Walk
import Derived.StillTailTactics
import Derived.LoopTactic
import Derived.LoopN
namespace Go.Proofs.Ytkoecjhjdckgeaa
open Go Go.Proofs Go.Shelf Go.Lib Go.Sort Go.RowKit
set_option maxRecDepth 100000
set_option linter.unusedSimpArgs false

theorem c_isNaN (x : Int) (w : World) : Calls Try.prog 51 #[.int .i64 x] w fun e w' => e = .returned (.bool false) ∧ w' = w := by
  go_enter Try.func51, Try.ntmps51
  go_wp2
  go_ret
  exact ⟨by simp, rfl⟩
set_option maxHeartbeats 1000000 in
theorem c_Compare (x y : Int) (w : World) : Calls Try.prog 41 #[.int .i64 x, .int .i64 y] w fun e w' => e = .returned (.int .i64 (Lib.compareInt x y)) ∧ w' = w := by
  go_enter Try.func41, Try.ntmps41
  go_wp2_with (go_at_call 51; refine (c_isNaN _ _).mono ?_; rintro e w' ⟨rfl, hw⟩; rw [hw])
  all_goals (go_ret; refine ⟨?_, rfl⟩; unfold Lib.compareInt; (repeat' split) <;> first | rfl | (exfalso; omega))
/-- The first of three numbers that is not 0. -/
def or3 (a b c : Int) : Int := if a ≠ 0 then a else if b ≠ 0 then b else c
set_option maxHeartbeats 2000000 in
theorem c_Or (a b c : Int) (B k : Nat) (W : World) (ha : W.cell? ⟨B, 0, none⟩ = some (.int .i64 a)) (hb : W.cell? ⟨B, 1, none⟩ = some (.int .i64 b)) (hc : W.cell? ⟨B, 2, none⟩ = some (.int .i64 c)) :
    Calls Try.prog 40 #[.slice (some ⟨B, 0, none⟩) 3 k] W fun e w' => e = .returned (.int .i64 (or3 a b c)) ∧ w' = W := by
  go_enter Try.func40, Try.ntmps40
  go_wp2
  go_loop [8] (fun i => ∃ j : Nat, j ≤ 3 ∧ i = .int .i64 j ∧ (0 < j → a = 0) ∧ (1 < j → b = 0) ∧ (2 < j → c = 0)) (fun i => 3 - (intOf i).toNat)
  case atStart => exact ⟨0, by omega, rfl, by omega, by omega, by omega⟩
  case round =>
    obtain ⟨j, hj, rfl, h1, h2, h3⟩ := hrel
    have e3 : j = 0 ∨ j = 1 ∨ j = 2 ∨ j = 3 := by omega
    rcases e3 with rfl | rfl | rfl | rfl
    · by_cases ha0 : a = 0
      · subst ha0
        go_wp2
        go_round
        case rel => exact ⟨1, by omega, rfl, fun _ => trivial, by omega, by omega⟩
        case measure => simp [intOf]
      · have hb1 : (a != 0) = true := by simp [ha0]
        go_wp2
        go_ret
        exact ⟨by simp [or3, ha0], rfl⟩
    · have ha0 := h1 (by omega)
      by_cases hb0 : b = 0
      · subst hb0
        go_wp2
        go_round
        case rel => exact ⟨2, by omega, rfl, fun _ => ha0, fun _ => trivial, by omega⟩
        case measure => simp [intOf]
      · have hb1 : (b != 0) = true := by simp [hb0]
        go_wp2
        go_ret
        exact ⟨by simp [or3, ha0, hb0], rfl⟩
    · have ha0 := h1 (by omega)
      have hb0 := h2 (by omega)
      by_cases hc0 : c = 0
      · subst hc0
        go_wp2
        go_round
        case rel => exact ⟨3, by omega, rfl, fun _ => ha0, fun _ => hb0, fun _ => trivial⟩
        case measure => simp [intOf]
      · have hb1 : (c != 0) = true := by simp [hc0]
        go_wp2
        go_ret
        exact ⟨by simp [or3, ha0, hb0, hc0], rfl⟩
    · have ha0 := h1 (by omega)
      have hb0 := h2 (by omega)
      have hc0 := h3 (by omega)
      go_wp2
      go_ret
      exact ⟨by simp [or3, ha0, hb0, hc0], rfl⟩
def Hid (p : Prop) : Prop := p
theorem al_new (w : World) (o : Obj) : (w.alloc o).heap[w.heap.size]? = some o := by show (w.heap.push o)[w.heap.size]? = _; simp
theorem al_old (w : World) (o : Obj) (k : Nat) (h : k < w.heap.size) : (w.alloc o).heap[k]? = w.heap[k]? := by show (w.heap.push o)[k]? = _; rw [Array.getElem?_push, if_neg (by omega)]
theorem al_size (w : World) (o : Obj) : (w.alloc o).heap.size = w.heap.size + 1 := by show (w.heap.push o).size = _; simp
theorem cell_at {w : World} {b : Nat} {c : Array Value} {t : TypeId} {f : Nat × Nat} (h : w.heap[b]? = some (.cells c t f)) (o : Nat) : w.cell? ⟨b, o, none⟩ = c[o]? := by
  show (match w.heap[b]? with | some (.cells c _ _) => if false then none else c[o]? | _ => none) = _
  rw [h]; rfl
set_option maxHeartbeats 1000000 in
theorem c_39 (x y : Int × Int × Int) (W : World) : Calls Try.prog 39 #[.agg #[.int .i64 x.1, .int .i64 x.2.1, .int .i64 x.2.2], .agg #[.int .i64 y.1, .int .i64 y.2.1, .int .i64 y.2.2]] W fun e w' => e = .returned (.int .i64 (or3 (Lib.compareInt y.2.2 x.2.2) (Lib.compareInt y.2.1 x.2.1) (Lib.compareInt x.1 y.1))) ∧ ∃ q os', w' = grow (W.drewN q) os' := by
  go_enter Try.func39, Try.ntmps39
  have hor := c_Or (Lib.compareInt y.2.2 x.2.2) (Lib.compareInt y.2.1 x.2.1) (Lib.compareInt x.1 y.1)
  have hcmp := c_Compare
  go_wp2
  obtain ⟨W1, hW1⟩ : ∃ W1, (W.alloc (.cells #[.int .i64 x.1, .int .i64 x.2.1, .int .i64 x.2.2] 38)).alloc (.cells #[.int .i64 y.1, .int .i64 y.2.1, .int .i64 y.2.2] 38) = W1 := ⟨_, rfl⟩
  have hA : W1.heap[W.heap.size]? = some (.cells #[.int .i64 x.1, .int .i64 x.2.1, .int .i64 x.2.2] 38 (0, 0)) := by
    rw [← hW1]; exact (al_old _ _ _ (by rw [al_size]; omega)).trans (al_new W _)
  have hB : W1.heap[W.heap.size + 1]? = some (.cells #[.int .i64 y.1, .int .i64 y.2.1, .int .i64 y.2.2] 38 (0, 0)) := by
    rw [← hW1]; have := al_new (W.alloc (.cells #[.int .i64 x.1, .int .i64 x.2.1, .int .i64 x.2.2] 38)) (.cells #[.int .i64 y.1, .int .i64 y.2.1, .int .i64 y.2.2] 38); rwa [al_size] at this
  have hgrow : W1 = grow W #[.cells #[.int .i64 x.1, .int .i64 x.2.1, .int .i64 x.2.2] 38 (0, 0), .cells #[.int .i64 y.1, .int .i64 y.2.1, .int .i64 y.2.2] 38 (0, 0)] := by rw [← hW1, alloc_eq_grow, alloc_eq_grow, grow_grow]; rfl
  change Code.wp Try.prog _ _ _ ((W.alloc (.cells #[.int .i64 x.1, .int .i64 x.2.1, .int .i64 x.2.2] 38)).alloc (.cells #[.int .i64 y.1, .int .i64 y.2.1, .int .i64 y.2.2] 38))
  rw [hW1]
  refine wp_region_still_tail 15 (by kernel_rfl) (by kernel_rfl) ?_
  simp only [List.take_succ_cons, List.take_zero, List.drop_succ_cons, List.drop_zero]
  change wpStill _ _ W1.drew _ _ _
  obtain ⟨W2, hW2⟩ : ∃ W2, W1.drew = W2 := ⟨_, rfl⟩
  have hA2 : W2.heap[W.heap.size]? = some (.cells #[.int .i64 x.1, .int .i64 x.2.1, .int .i64 x.2.2] 38 (0, 0)) := by rw [← hW2]; exact hA
  have hB2 : W2.heap[W.heap.size + 1]? = some (.cells #[.int .i64 y.1, .int .i64 y.2.1, .int .i64 y.2.2] 38 (0, 0)) := by rw [← hW2]; exact hB
  have a0 := cell_at hA2 0
  have a1 := cell_at hA2 1
  have a2 := cell_at hA2 2
  have b0 := cell_at hB2 0
  have b1 := cell_at hB2 1
  have b2 := cell_at hB2 2
  simp at a0 a1 a2 b0 b1 b2
  rw [hW2]
  still_step
  still_step
  still_step
  still_step
  still_call (hcmp _ _ _)
  still_step
  still_step
  still_step
  still_step
  still_call (hcmp _ _ _)
  still_step
  still_step
  still_step
  still_step
  still_call (hcmp _ _ _)
  refine wpStill_nil ?_
  change wpList _ _ _ _ _ W1.drew
  rw [hW2]
  have hC := al_new W2 (.cells #[.int .i64 (Lib.compareInt y.2.2 x.2.2), .int .i64 (Lib.compareInt y.2.1 x.2.1), .int .i64 (Lib.compareInt x.1 y.1)] 3)
  have hor' := fun k => hor W2.heap.size k (W2.alloc (.cells #[.int .i64 (Lib.compareInt y.2.2 x.2.2), .int .i64 (Lib.compareInt y.2.1 x.2.1), .int .i64 (Lib.compareInt x.1 y.1)] 3)) (cell_at hC 0) (cell_at hC 1) (cell_at hC 2)
  have hfin : Hid (W2.alloc (.cells #[.int .i64 (Lib.compareInt y.2.2 x.2.2), .int .i64 (Lib.compareInt y.2.1 x.2.1), .int .i64 (Lib.compareInt x.1 y.1)] 3) = grow (W.drewN 1) #[.cells #[.int .i64 x.1, .int .i64 x.2.1, .int .i64 x.2.2] 38 (0, 0), .cells #[.int .i64 y.1, .int .i64 y.2.1, .int .i64 y.2.2] 38 (0, 0), .cells #[.int .i64 (Lib.compareInt y.2.2 x.2.2), .int .i64 (Lib.compareInt y.2.1 x.2.1), .int .i64 (Lib.compareInt x.1 y.1)] 3 (0, 0)]) := by
    unfold Hid
    rw [← hW2, hgrow, alloc_eq_grow]
    show grow (grow W.drew _) _ = _
    rw [grow_grow]
    rfl
  obtain ⟨r, hr⟩ : ∃ r, or3 (Lib.compareInt y.2.2 x.2.2) (Lib.compareInt y.2.1 x.2.1) (Lib.compareInt x.1 y.1) = r := ⟨_, rfl⟩
  rw [hr] at hor'
  replace hr : Hid (or3 (Lib.compareInt y.2.2 x.2.2) (Lib.compareInt y.2.1 x.2.1) (Lib.compareInt x.1 y.1) = r) := hr
  clear hor hcmp hA hB hA2 hB2 a0 a1 a2 b0 b1 b2 hC hgrow hW2 hW1 W1
  generalize Lib.compareInt y.2.2 x.2.2 = r1 at hor' hfin ⊢
  generalize Lib.compareInt y.2.1 x.2.1 = r2 at hor' hfin ⊢
  generalize Lib.compareInt x.1 y.1 = r3 at hor' hfin ⊢
  go_wp2_with (go_at_call 40; refine (hor' _).mono ?_; rintro e w' ⟨rfl, rfl⟩)
  go_ret
  refine ⟨?_, 1, _, hfin⟩
  simp
  exact Eq.symm hr
end Go.Proofs.Ytkoecjhjdckgeaa
