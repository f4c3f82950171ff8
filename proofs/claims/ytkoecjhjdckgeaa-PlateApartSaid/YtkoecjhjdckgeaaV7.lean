import Derived.Test.YtkoecjhjdckgeaaV4
import Derived.Test.YtkoecjhjdckgeaaV6
import Derived.Shelf.Slices.In.SortNone
/- Go's SortedFunc over Values at items in this seat's program. No condition. -/
namespace Go.Proofs.Ytkoecjhjdckgeaa
open Go Go.Abs Go.Shelf Go.Proofs Go.RowKit Go.Maps Go.Sort
set_option maxRecDepth 100000
set_option linter.unusedSimpArgs false
set_option linter.unusedVariables false
abbrev T3 := Int × Int × Int

/-- The first k of triples. -/
def upto3 (zs : List T3) (k : Nat) : List T3 := (List.range k).map fun j => zs.getD j (0, 0, 0)
theorem upto3_succ (zs : List T3) (k : Nat) : upto3 zs (k + 1) = upto3 zs k ++ [zs.getD k (0, 0, 0)] := by simp [upto3, List.range_succ]
theorem upto3_length (zs : List T3) (k : Nat) : (upto3 zs k).length = k := by simp [upto3]
theorem upto3_all (zs : List T3) : upto3 zs zs.length = zs := by
  apply List.ext_getElem
  · simp [upto3]
  · intro i h1 h2; simp [upto3, h2]

set_option maxHeartbeats 2000000 in
theorem vals3_some (F : Fence) (n : Nat) (hf : F.fn 50) (hro : F.round = none) (hn : 1 ≤ n) (l Bs o n0 b off len cap : Nat) (zs : List T3) (hreach : len * 24 ≤ 140737488351232) (hb : b < n0) (hBn : Bs < n0) (w0 : World) (J : List T3 → World → Prop) (hJ : ∀ s X, J s X → Below n0 w0 X)
    (hSt : ∀ s X X', J s X → RowKit.Below X.heap.size X X' → J s X')
    (hY : ∀ pre x W, J pre W → pre.length < len → YieldAt F (n - 1) Try.prog l #[g3 x] W fun e W' => e = .returned (.bool true) ∧ J (pre ++ [x]) W')
    (W : World) (hBs0 : w0.cell? ⟨Bs, o, none⟩ = some (.slice (some ⟨b, off, none⟩) len cap))
    (hc : ∀ j, j < len → w0.cell? ⟨b, off + j * 3, none⟩ = some (.int .i64 (zs.getD j (0, 0, 0)).1) ∧ w0.cell? ⟨b, off + j * 3 + 1, none⟩ = some (.int .i64 (zs.getD j (0, 0, 0)).2.1) ∧ w0.cell? ⟨b, off + j * 3 + 2, none⟩ = some (.int .i64 (zs.getD j (0, 0, 0)).2.2)) (h0 : J [] W) :
    CallsIn F n Try.prog 50 #[.func (.yield l) #[] #[], .pointer (some ⟨Bs, o, none⟩)] W fun e W' => (∃ v, e = .returned v) ∧ J (upto3 zs len) W' := by
  have hBs := ((hJ _ _ h0).cell (p := ⟨Bs, o, none⟩) hBn).trans hBs0
  refine callsIn_of_wp Try.func50 rfl hf ?_ hro
  simp only [Try.ntmps50, List.size_toArray, List.length_cons, List.length_nil, Nat.reduceAdd, Nat.reduceSub, Array.replicate_succ, Array.replicate_zero, List.push_toArray, List.append_toArray, List.nil_append, List.cons_append]
  gi_wp2
  gi_loopw [7] (fun i wr => ∃ k : Nat, k ≤ len ∧ i = .int .i64 k ∧ J (upto3 zs k) wr)
    (fun i _ => len - (intOf i).toNat)
  case atStart => exact ⟨0, Nat.zero_le _, rfl, h0⟩
  case round =>
    obtain ⟨k, hk, rfl, hJs⟩ := hrel
    by_cases hlt : k < len
    · have hk3 := hc k hlt
      have hcx0 := ((hJ _ _ hJs).cell (p := ⟨b, off + k * 3, none⟩) hb).trans hk3.1
      have hcx1 := ((hJ _ _ hJs).cell (p := ⟨b, off + k * 3 + 1, none⟩) hb).trans hk3.2.1
      have hcx2 := ((hJ _ _ hJs).cell (p := ⟨b, off + k * 3 + 2, none⟩) hb).trans hk3.2.2
      have hup := upto3_succ zs k
      generalize zs.getD k (0, 0, 0) = x at hcx0 hcx1 hcx2 hup hk3
      have hJa := hSt _ wr (wr.alloc (.cells #[.int .i64 x.1, .int .i64 x.2.1, .int .i64 x.2.2] 38)) hJs ((RowKit.Below.refl _ _).alloc (Nat.le_refl _) _)
      obtain ⟨fn, tmps, assign, body, hy, hR⟩ := hY _ x _ hJa (by rw [upto3_length]; exact hlt)
      unfold g3 at hy
      gi_wp2
      refine hR.mono ?_
      rintro e W3 ⟨rfl, hJ3⟩
      gi_wp2
      go_roundw
      case rel => exact ⟨k + 1, by omega, by simp, by rw [hup]; exact hJ3⟩
      case measure => simp [intOf]; omega
    · obtain rfl : k = len := by omega
      gi_wp2
      go_end0
      exact ⟨⟨_, rfl⟩, hJs⟩

set_option maxHeartbeats 1000000 in
theorem vals3_none (F : Fence) (n : Nat) (hf : F.fn 50) (hro : F.round = none) (l Bs o n0 cap : Nat) (a : Option Addr) (hBn : Bs < n0) (w0 : World) (J : List T3 → World → Prop) (hJ : ∀ s X, J s X → Below n0 w0 X) (W : World) (hBs0 : w0.cell? ⟨Bs, o, none⟩ = some (.slice a 0 cap)) (h0 : J [] W) :
    CallsIn F n Try.prog 50 #[.func (.yield l) #[] #[], .pointer (some ⟨Bs, o, none⟩)] W fun e W' => (∃ v, e = .returned v) ∧ J [] W' := by
  have hBs := ((hJ _ _ h0).cell (p := ⟨Bs, o, none⟩) hBn).trans hBs0
  refine callsIn_of_wp Try.func50 rfl hf ?_ hro
  simp only [Try.ntmps50, List.size_toArray, List.length_cons, List.length_nil, Nat.reduceAdd, Nat.reduceSub, Array.replicate_succ, Array.replicate_zero, List.push_toArray, List.append_toArray, List.nil_append, List.cons_append]
  gi_wp2
  gi_loopw [7] (fun i wr => i = .int .i64 0 ∧ J [] wr) (fun _ _ => 0)
  case atStart => exact ⟨rfl, h0⟩
  case round =>
    obtain ⟨rfl, hJs⟩ := hrel
    gi_wp2
    go_end0
    exact ⟨⟨_, rfl⟩, hJs⟩

/-- The order of the closure. -/
def cfT (a b : T3) : Int := or3 (Lib.compareInt b.2.2 a.2.2) (Lib.compareInt b.2.1 a.2.1) (Lib.compareInt a.1 b.1)
theorem cfT_lt (a b : T3) : cfT a b < 0 ↔ (b.2.2 < a.2.2 ∨ a.2.2 = b.2.2 ∧ (b.2.1 < a.2.1 ∨ a.2.1 = b.2.1 ∧ a.1 < b.1)) := by
  unfold cfT or3 Lib.compareInt
  repeat' split
  all_goals omega
def ltT : T3 → T3 → Bool := ltOf cfT
theorem ltT_iff (a b : T3) : ltT a b = true ↔ (b.2.2 < a.2.2 ∨ a.2.2 = b.2.2 ∧ (b.2.1 < a.2.1 ∨ a.2.1 = b.2.1 ∧ a.1 < b.1)) := by
  unfold ltT ltOf
  rw [decide_eq_true_eq, cfT_lt]
theorem ltT_swo : SWO ltT where
  irrefl x := by rw [Bool.eq_false_iff]; intro h; rw [ltT_iff] at h; omega
  trans x y z h1 h2 := by rw [ltT_iff] at *; omega
  ntrans x y z h1 h2 := by
    rw [Bool.eq_false_iff] at *
    intro h
    rw [ne_eq, ltT_iff] at h1 h2
    rw [ltT_iff] at h
    omega
theorem ltT_anti (x y : T3) (h1 : ltT x y = false) (h2 : ltT y x = false) : x = y := by
  rw [Bool.eq_false_iff, ne_eq, ltT_iff] at h1 h2
  obtain ⟨a1, a2, a3⟩ := x
  obtain ⟨b1, b2, b3⟩ := y
  simp only at h1 h2
  simp only [Prod.mk.injEq]
  omega
/-- The triples in order. -/
def tallL (l : List T3) : List T3 := l.mergeSort fun x y => !ltT y x
theorem tallL_perm (l : List T3) : (tallL l).Perm l := List.mergeSort_perm _ _
theorem tallL_len (l : List T3) : (tallL l).length = l.length := (tallL_perm l).length_eq

theorem cmpLays (blk off size : Nat) (w : World) : CmpLays Try.prog 39 #[] e3 3 cfT blk off size w := fun m os dk _ x y => by
  have := c_39 x y (sortWorldK e3 3 w blk off m dk os)
  exact this

set_option maxHeartbeats 2000000 in
theorem sortedFunc3 (n : Nat) (hn : 4 ≤ n) (g : Nat) (lb : Array Value) (eg : ∀ args w, (callFunc g args).run Try.prog w = .ok (.enter g args) w)
    (xs : List T3) (hN : xs.length ≤ maxLen) (hNb : xs.length * 24 ≤ 140737488355328) (w : World) (hseq : SeqV3 Fence.wide (n - 1 - 1 - 1) g lb xs w) :
    CallsIn Fence.wide n Try.prog 37 #[.func (.func g) #[] lb, .func (.func 39) #[] #[]] w fun e w' => ∃ v : Value, e = .returned v ∧
      w'.ownsRow w.heap.size 38 3 v xs.length (f3 (tallL xs)) ∧ (v = .slice none 0 0 ↔ xs = []) ∧ RowKit.Below w.heap.size w w' := by
  have h1 : 1 ≤ n := by omega
  have e48 : ∀ args w, (callFunc 48 args).run Try.prog w = .ok (.enter 48 args) w := enters_of Try.func48 (by kernel_rfl) rfl
  have e49 : ∀ args w, (callFunc 49 args).run Try.prog w = .ok (.enter 49 args) w := enters_of Try.func49 (by kernel_rfl) rfl
  have e39 : ∀ args w, (callFunc 39 args).run Try.prog w = .ok (.enter 39 args) w := enters_of Try.func39 (by kernel_rfl) rfl
  have hall : ∀ f, Fence.wide.fn f := fun f => trivial
  refine callsIn_of_wp Try.func37 rfl (hall _) ?_ rfl
  simp only [Try.ntmps37, List.size_toArray, List.length_cons, List.length_nil, Nat.reduceAdd, Nat.reduceSub, Array.replicate_succ, Array.replicate_zero, List.push_toArray, List.append_toArray, List.nil_append, List.cons_append]
  gi_wp2_with (gi_at_fn 48; refine (collectV3 Fence.wide (n - 1) (hall _) (hall _) rfl (by omega) g lb (hall _) eg xs hN hNb _ hseq).mono ?_; rintro e W ⟨v, rfl, hrow, hnil, hb⟩)
  rcases hrow.2 with ⟨rfl, hz⟩ | ⟨gb, cap, cur, rfl, hbase, hgb, r1, r2, r3, r4⟩
  · have hss : xs = [] := List.eq_nil_of_length_eq_zero hz
    subst hss
    have cN := AnyF.slices_SortFunc_none sfLays none 0 (.func (.func 39) #[] #[]) W
    have cN' : CallsIn Fence.wide (n - 1) Try.prog 49 #[.slice none 0 0, .func (.func 39) #[] #[]] W fun e w' => e = .returned (.tuple #[]) ∧ w' = W := callsIn_wide.2 cN
    gi_wp2_with (gi_at_fn 49; refine cN'.mono ?_; rintro e w' ⟨rfl, rfl⟩)
    go_ret
    exact ⟨.slice none 0 0, rfl, by simpa [tallL] using hrow, by simp, hb⟩
  · have hH : HoldsK e3 3 W gb 0 xs.toArray := holds3 hgb r4
    have hgl : gb < W.heap.size := (Array.getElem?_eq_some_iff.1 hgb).1
    have cS := AnyQ.slices_SortFunc_total sfLays 3 Try.isAgg38 Try.sizeOf38 e3 e3_len e3_one cfT ltT_swo 39 #[] gb 0 cap xs.toArray W e39 (cmpLays _ _ _ _) hH hgl (by simp only [maxLen] at hN; simp; omega) ltT_anti
    have cS' : CallsIn Fence.wide (n - 1) Try.prog 49 #[.slice (some ⟨gb, 0, none⟩) xs.length cap, .func (.func 39) #[] #[]] W fun e w' => e = .returned (.tuple #[]) ∧ ∃ n os, w' = sortWorldK e3 3 W gb 0 n (tallL xs).toArray os := callsIn_wide.2 cS
    gi_wp2_with (gi_at_fn 49; refine cS'.mono ?_; rintro e w' ⟨rfl, nn, os, rfl⟩)
    go_ret
    exact ⟨_, rfl, ownsRow3 (tallL_len xs) hbase hgb r1 r2 r3, hnil, hb.grown (grownBy3 _) hb.size (fun j hj => by cases hj; exact hbase)⟩
end Go.Proofs.Ytkoecjhjdckgeaa
