/- The order of marks, and of decisions by their marks, and lists sorted by it that come by way of an iterator. No condition. -/
import Derived.Test.YtcnmodnafnadlaaV6
import Derived.Test.YtcnmodnafnadlaaV7
import Derived.Shelf.SlSortCmp.QuietGrown
import Derived.Lib.Small
import Derived.Lib.Walk
import Derived.StillTailTactics
import Derived.LoopTactic
import Derived.LoopN
namespace Go.Proofs.Ytcnmodnafnadlaa
open Go Go.Proofs Go.Shelf Go.Lib Go.Sort Go.RowKit
set_option maxRecDepth 100000
set_option linter.unusedSimpArgs false
set_option linter.unusedVariables false

theorem c_isNaN (x : Int) (w : World) : Calls Try.prog 76 #[.int .i64 x] w fun e w' => e = .returned (.bool false) ∧ w' = w := by
  go_enter Try.func76, Try.ntmps76
  go_wp2
  go_ret
  exact ⟨by simp, rfl⟩
set_option maxHeartbeats 1000000 in
theorem c_Compare (x y : Int) (w : World) : Calls Try.prog 65 #[.int .i64 x, .int .i64 y] w fun e w' => e = .returned (.int .i64 (Lib.compareInt x y)) ∧ w' = w := by
  go_enter Try.func65, Try.ntmps65
  go_wp2_with (go_at_call 76; refine (c_isNaN _ _).mono ?_; rintro e w' ⟨rfl, hw⟩; rw [hw])
  all_goals (go_ret; refine ⟨?_, rfl⟩; unfold Lib.compareInt; (repeat' split) <;> first | rfl | (exfalso; omega))
/-- The first of two numbers that is not 0. -/
def or2 (a b : Int) : Int := if a ≠ 0 then a else b
set_option maxHeartbeats 2000000 in
theorem c_Or (a b : Int) (B k : Nat) (W : World) (ha : W.cell? ⟨B, 0, none⟩ = some (.int .i64 a)) (hb : W.cell? ⟨B, 1, none⟩ = some (.int .i64 b)) :
    Calls Try.prog 64 #[.slice (some ⟨B, 0, none⟩) 2 k] W fun e W' => e = .returned (.int .i64 (or2 a b)) ∧ W' = W := by
  go_enter Try.func64, Try.ntmps64
  go_wp2
  go_loop [8] (fun i => ∃ j : Nat, j ≤ 2 ∧ i = .int .i64 j ∧ (0 < j → a = 0) ∧ (1 < j → b = 0)) (fun i => 2 - (intOf i).toNat)
  case atStart => exact ⟨0, by omega, rfl, by omega, by omega⟩
  case round =>
    obtain ⟨j, hj, rfl, h1, h2⟩ := hrel
    have e3 : j = 0 ∨ j = 1 ∨ j = 2 := by omega
    rcases e3 with rfl | rfl | rfl
    · by_cases ha0 : a = 0
      · subst ha0
        go_wp2
        go_round
        case rel => exact ⟨1, by omega, rfl, fun _ => trivial, by omega⟩
        case measure => simp [intOf]
      · have hb1 : (a != 0) = true := by simp [ha0]
        go_wp2
        go_ret
        exact ⟨by simp [or2, ha0], rfl⟩
    · have ha0 := h1 (by omega)
      by_cases hb0 : b = 0
      · subst hb0
        go_wp2
        go_round
        case rel => exact ⟨2, by omega, rfl, fun _ => ha0, fun _ => trivial⟩
        case measure => simp [intOf]
      · have hb1 : (b != 0) = true := by simp [hb0]
        go_wp2
        go_ret
        exact ⟨by simp [or2, ha0, hb0], rfl⟩
    · have ha0 := h1 (by omega)
      have hb0 := h2 (by omega)
      go_wp2
      go_ret
      exact ⟨by simp [or2, ha0, hb0], rfl⟩
def Hid (p : Prop) : Prop := p
theorem al_new (w : World) (o : Obj) : (w.alloc o).heap[w.heap.size]? = some o := by show (w.heap.push o)[w.heap.size]? = _; simp
theorem al_old (w : World) (o : Obj) (k : Nat) (h : k < w.heap.size) : (w.alloc o).heap[k]? = w.heap[k]? := by show (w.heap.push o)[k]? = _; rw [Array.getElem?_push, if_neg (by omega)]
theorem al_size (w : World) (o : Obj) : (w.alloc o).heap.size = w.heap.size + 1 := by show (w.heap.push o).size = _; simp
theorem cell_at {w : World} {b : Nat} {c : Array Value} {t : TypeId} {f : Nat × Nat} (h : w.heap[b]? = some (.cells c t f)) (o : Nat) : w.cell? ⟨b, o, none⟩ = c[o]? := by
  show (match w.heap[b]? with | some (.cells c _ _) => if false then none else c[o]? | _ => none) = _
  rw [h]; rfl
set_option maxHeartbeats 1000000 in
theorem c_45 (x y : Int × Int) (W : World) : Calls Try.prog 45 #[.agg #[.int .i64 x.1, .int .i64 x.2], .agg #[.int .i64 y.1, .int .i64 y.2]] W fun e w' => e = .returned (.int .i64 (or2 (Lib.compareInt x.1 y.1) (Lib.compareInt x.2 y.2))) ∧ ∃ q os', w' = grow (W.drewN q) os' := by
  go_enter Try.func45, Try.ntmps45
  have hor := c_Or (Lib.compareInt x.1 y.1) (Lib.compareInt x.2 y.2)
  have hcmp := c_Compare
  go_wp2
  obtain ⟨W1, hW1⟩ : ∃ W1, (W.alloc (.cells #[.int .i64 x.1, .int .i64 x.2] 33)).alloc (.cells #[.int .i64 y.1, .int .i64 y.2] 33) = W1 := ⟨_, rfl⟩
  have hA : W1.heap[W.heap.size]? = some (.cells #[.int .i64 x.1, .int .i64 x.2] 33 (0, 0)) := by
    rw [← hW1]; exact (al_old _ _ _ (by rw [al_size]; omega)).trans (al_new W _)
  have hB : W1.heap[W.heap.size + 1]? = some (.cells #[.int .i64 y.1, .int .i64 y.2] 33 (0, 0)) := by
    rw [← hW1]; have := al_new (W.alloc (.cells #[.int .i64 x.1, .int .i64 x.2] 33)) (.cells #[.int .i64 y.1, .int .i64 y.2] 33); rwa [al_size] at this
  have hgrow : W1 = grow W #[.cells #[.int .i64 x.1, .int .i64 x.2] 33 (0, 0), .cells #[.int .i64 y.1, .int .i64 y.2] 33 (0, 0)] := by rw [← hW1, alloc_eq_grow, alloc_eq_grow, grow_grow]; rfl
  change Code.wp Try.prog _ _ _ ((W.alloc (.cells #[.int .i64 x.1, .int .i64 x.2] 33)).alloc (.cells #[.int .i64 y.1, .int .i64 y.2] 33))
  rw [hW1]
  refine wp_region_still_tail 10 (by kernel_rfl) (by kernel_rfl) ?_
  simp only [List.take_succ_cons, List.take_zero, List.drop_succ_cons, List.drop_zero]
  change wpStill _ _ W1.drew _ _ _
  obtain ⟨W2, hW2⟩ : ∃ W2, W1.drew = W2 := ⟨_, rfl⟩
  have hA2 : W2.heap[W.heap.size]? = some (.cells #[.int .i64 x.1, .int .i64 x.2] 33 (0, 0)) := by rw [← hW2]; exact hA
  have hB2 : W2.heap[W.heap.size + 1]? = some (.cells #[.int .i64 y.1, .int .i64 y.2] 33 (0, 0)) := by rw [← hW2]; exact hB
  have a0 := cell_at hA2 0
  have a1 := cell_at hA2 1
  have b0 := cell_at hB2 0
  have b1 := cell_at hB2 1
  simp at a0 a1 b0 b1
  rw [hW2]
  still_step
  still_step
  still_step
  still_step
  still_call (hcmp _ _ _)
  still_step
  still_step
  still_step
  still_step
  still_call (hcmp _ _ _)
  refine wpStill_nil ?_
  change wpList _ _ _ _ _ W1.drew
  rw [hW2]
  have hC := al_new W2 (.cells #[.int .i64 (Lib.compareInt x.1 y.1), .int .i64 (Lib.compareInt x.2 y.2)] 3)
  have hor' := fun k => hor W2.heap.size k (W2.alloc (.cells #[.int .i64 (Lib.compareInt x.1 y.1), .int .i64 (Lib.compareInt x.2 y.2)] 3)) (cell_at hC 0) (cell_at hC 1)
  have hfin : Hid (W2.alloc (.cells #[.int .i64 (Lib.compareInt x.1 y.1), .int .i64 (Lib.compareInt x.2 y.2)] 3) = grow (W.drewN 1) #[.cells #[.int .i64 x.1, .int .i64 x.2] 33 (0, 0), .cells #[.int .i64 y.1, .int .i64 y.2] 33 (0, 0), .cells #[.int .i64 (Lib.compareInt x.1 y.1), .int .i64 (Lib.compareInt x.2 y.2)] 3 (0, 0)]) := by
    unfold Hid
    rw [← hW2, hgrow, alloc_eq_grow]
    show grow (grow W.drew _) _ = _
    rw [grow_grow]
    rfl
  obtain ⟨r, hr⟩ : ∃ r, or2 (Lib.compareInt x.1 y.1) (Lib.compareInt x.2 y.2) = r := ⟨_, rfl⟩
  rw [hr] at hor'
  replace hr : Hid (or2 (Lib.compareInt x.1 y.1) (Lib.compareInt x.2 y.2) = r) := hr
  clear hor hcmp hA hB hA2 hB2 a0 a1 b0 b1 hC hgrow hW2 hW1 W1
  generalize Lib.compareInt x.1 y.1 = r1 at hor' hfin ⊢
  generalize Lib.compareInt x.2 y.2 = r2 at hor' hfin ⊢
  go_wp2_with (go_at_call 64; refine (hor' _).mono ?_; rintro e w' ⟨rfl, rfl⟩)
  go_ret
  refine ⟨?_, 1, _, hfin⟩
  simp
  exact Eq.symm hr
theorem c_33 (x : Dec) (w : World) : Calls Try.prog 33 #[.agg #[.int .i64 x.au, .int .i64 x.nu, .int .i64 x.ki, .int .i64 x.a, .int .i64 x.b]] w fun e w' => e = .returned (.agg #[.int .i64 x.au, .int .i64 x.nu]) ∧ ∃ os', w' = grow w os' := by
  go_enter Try.func33, Try.ntmps33
  go_wp2
  have hB : ((w.alloc (.cells #[.int .i64 x.au, .int .i64 x.nu, .int .i64 x.ki, .int .i64 x.a, .int .i64 x.b] 31)).alloc (.cells #[.int .i64 x.au, .int .i64 x.nu] 33)).heap[w.heap.size + 1]? = some (.cells #[.int .i64 x.au, .int .i64 x.nu] 33 (0, 0)) := by
    have := al_new (w.alloc (.cells #[.int .i64 x.au, .int .i64 x.nu, .int .i64 x.ki, .int .i64 x.a, .int .i64 x.b] 31)) (.cells #[.int .i64 x.au, .int .i64 x.nu] 33); rwa [al_size] at this
  try simp only [Exit.inBlock, Exit.then]
  refine bodyPost_ret (results_cell_row rfl _ _ (w.heap.size + 1) 33 #[.int .i64 x.au, .int .i64 x.nu] (0, 0) _ rfl hB Try.underlying33 rfl (by kernel_rfl)) rfl ?_
  exact ⟨rfl, _, by rw [alloc_eq_grow, alloc_eq_grow, grow_grow]⟩
set_option maxHeartbeats 1000000 in
theorem c_44 (x y : Dec) (W : World) : Calls Try.prog 44 #[.agg #[.int .i64 x.au, .int .i64 x.nu, .int .i64 x.ki, .int .i64 x.a, .int .i64 x.b], .agg #[.int .i64 y.au, .int .i64 y.nu, .int .i64 y.ki, .int .i64 y.a, .int .i64 y.b]] W fun e w' => e = .returned (.int .i64 (or2 (Lib.compareInt x.au y.au) (Lib.compareInt x.nu y.nu))) ∧ ∃ q os', w' = grow (W.drewN q) os' := by
  have hmix : Try.prog.follows .mixedOrders = true := by kernel_rfl
  go_enter Try.func44, Try.ntmps44
  go_wp2
  obtain ⟨W1, hW1⟩ : ∃ W1, (W.alloc (.cells #[.int .i64 x.au, .int .i64 x.nu, .int .i64 x.ki, .int .i64 x.a, .int .i64 x.b] 31)).alloc (.cells #[.int .i64 y.au, .int .i64 y.nu, .int .i64 y.ki, .int .i64 y.a, .int .i64 y.b] 31) = W1 := ⟨_, rfl⟩
  have hs : W1.heap.size = W.heap.size + 2 := by rw [← hW1, al_size, al_size]
  have hgr : Hid (W1 = grow W #[.cells #[.int .i64 x.au, .int .i64 x.nu, .int .i64 x.ki, .int .i64 x.a, .int .i64 x.b] 31 (0, 0), .cells #[.int .i64 y.au, .int .i64 y.nu, .int .i64 y.ki, .int .i64 y.a, .int .i64 y.b] 31 (0, 0)]) := by unfold Hid; rw [← hW1, alloc_eq_grow, alloc_eq_grow, grow_grow]; rfl
  have hA : W1.heap[W.heap.size]? = some (.cells #[.int .i64 x.au, .int .i64 x.nu, .int .i64 x.ki, .int .i64 x.a, .int .i64 x.b] 31 (0, 0)) := by
    rw [← hW1]; exact (al_old _ _ _ (by rw [al_size]; omega)).trans (al_new W _)
  have hB : W1.heap[W.heap.size + 1]? = some (.cells #[.int .i64 y.au, .int .i64 y.nu, .int .i64 y.ki, .int .i64 y.a, .int .i64 y.b] 31 (0, 0)) := by
    rw [← hW1]; have := al_new (W.alloc (.cells #[.int .i64 x.au, .int .i64 x.nu, .int .i64 x.ki, .int .i64 x.a, .int .i64 x.b] 31)) (.cells #[.int .i64 y.au, .int .i64 y.nu, .int .i64 y.ki, .int .i64 y.a, .int .i64 y.b] 31); rwa [al_size] at this
  have hld : ∀ (b : Nat) (z : Dec), W1.heap[b]? = some (.cells #[.int .i64 z.au, .int .i64 z.nu, .int .i64 z.ki, .int .i64 z.a, .int .i64 z.b] 31 (0, 0)) → ∀ (j : Nat) (v : Value), (#[.int .i64 z.au, .int .i64 z.nu, .int .i64 z.ki, .int .i64 z.a, .int .i64 z.b] : Array Value)[j]? = some v → ∀ (n : Nat) (os : Array Obj), (grow (W1.drewN n) os).cell? ⟨b, j, none⟩ = some v := fun b z hb j v hj n os => by
    have hbl : b < W1.heap.size := (Array.getElem?_eq_some_iff.1 hb).1
    refine cell_grown (by exact hbl) ?_ n os
    rw [cell_at hb j]
    exact hj
  have hx0 := hld _ x hA 0 _ rfl
  have hx1 := hld _ x hA 1 _ rfl
  have hx2 := hld _ x hA 2 _ rfl
  have hx3 := hld _ x hA 3 _ rfl
  have hx4 := hld _ x hA 4 _ rfl
  have hy0 := hld _ y hB 0 _ rfl
  have hy1 := hld _ y hB 1 _ rfl
  have hy2 := hld _ y hB 2 _ rfl
  have hy3 := hld _ y hB 3 _ rfl
  have hy4 := hld _ y hB 4 _ rfl
  have hmk : ∀ (z : Dec) (n : Nat) (os : Array Obj), Calls Try.prog 33 #[.agg #[.int .i64 z.au, .int .i64 z.nu, .int .i64 z.ki, .int .i64 z.a, .int .i64 z.b]] (grow (W1.drewN n) os) fun e w' => e = .returned (.agg #[.int .i64 z.au, .int .i64 z.nu]) ∧ ∃ q os', w' = grow ((grow (W1.drewN n) os).drewN q) os' := fun z n os =>
    (c_33 z _).mono fun e w' ⟨h1, os', h2⟩ => ⟨h1, 0, os', by rw [h2]; rfl⟩
  have hmx := hmk x
  have hmy := hmk y
  have hcm := fun (n : Nat) (os : Array Obj) => c_45 (x.au, x.nu) (y.au, y.nu) (grow (W1.drewN n) os)
  simp only at hcm
  change Code.wp Try.prog _ _ _ ((W.alloc (.cells #[.int .i64 x.au, .int .i64 x.nu, .int .i64 x.ki, .int .i64 x.a, .int .i64 x.b] 31)).alloc (.cells #[.int .i64 y.au, .int .i64 y.nu, .int .i64 y.ki, .int .i64 y.a, .int .i64 y.b] 31))
  rw [hW1]
  clear hW1 hA hB hld hmk
  go_quiet_grown (first | (go_at_call 33; refine Calls.grown_of (hmx _ _)) | (go_at_call 33; refine Calls.grown_of (hmy _ _)) | (go_at_call 45; refine Calls.grown_of (hcm _ _)))
  go_wp2
  go_ret
  unfold Hid at hgr
  exact ⟨rfl, nq, _, by rw [hgr]; show grow (grow (W.drewN nq) _) osq = _; rw [grow_grow]⟩
end Go.Proofs.Ytcnmodnafnadlaa
