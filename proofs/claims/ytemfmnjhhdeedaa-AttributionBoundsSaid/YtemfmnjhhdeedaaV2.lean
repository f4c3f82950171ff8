/- Go's Sorted over Values in this seat's program. No condition. Printed by a program of ours. -/
import Derived.Test.YtemfmnjhhdeedaaV1
import Derived.Test.YtemfmnjhhdeedaaS2
import Derived.Test.YtemfmnjhhdeedaaProg
import Derived.Shelf.Slices.In.SortNone
namespace Go.Proofs.Ytemfmnjhhdeedaa
open Go Go.Abs Go.Shelf Go.Proofs Go.RowKit Go.Maps Go.Sort
set_option maxRecDepth 100000
set_option linter.unusedSimpArgs false
set_option linter.unusedVariables false
def rvF : Nat → Nat
  | 6 => 38
  | 8 => 62
  | 9 => 63
  | 11 => 72
  | _ => 0
def rvT : Nat → Nat
  | 0 => 0
  | 24 => 23
  | 26 => 3
  | 28 => 58
  | 33 => 66
  | _ => 0
def rv : Ren := ⟨rvF, rvT, fun x => x⟩
theorem collLays : SlLaysZI.n6 Try.prog rv where
  mixed := by kernel_rfl
  f6 := ⟨ "slices.Sorted[int]", by decide, by kernel_rfl⟩
  f8 := ⟨ "slices.Collect[int]", by decide, by kernel_rfl⟩
  f11 := ⟨ "slices.AppendSeq[[]int,int]", by decide, by kernel_rfl⟩
  t0 := Try.underlying0
  a0 := Try.isAgg0
  z0 := Try.sizeOf0
  v0 := Try.zeroValue0
  t24 := Try.underlying23
  a24 := Try.isAgg23
  z24 := Try.sizeOf23
  v24 := Try.zeroValue23
  t26 := Try.underlying3
  a26 := Try.isAgg3
  z26 := Try.sizeOf3
  v26 := Try.zeroValue3
  t28 := Try.underlying58
  a28 := Try.isAgg58
  z28 := Try.sizeOf58
  v28 := Try.zeroValue58
  i26 := by kernel_rfl

/-- The first k of numbers. -/
def upto (zs : List Int) (k : Nat) : List Int := (List.range k).map fun j => zs[j]?.getD 0
theorem upto_succ (zs : List Int) (k : Nat) : upto zs (k + 1) = upto zs k ++ [zs[k]?.getD 0] := by simp [upto, List.range_succ]
theorem upto_length (zs : List Int) (k : Nat) : (upto zs k).length = k := by simp [upto]
theorem upto_all (zs : List Int) : upto zs zs.length = zs := by
  apply List.ext_getElem
  · simp [upto]
  · intro i h1 h2; simp [upto, h2]

set_option maxHeartbeats 2000000 in
theorem vals_some (F : Fence) (n : Nat) (hf : F.fn 64) (hro : F.round = none) (hn : 1 ≤ n) (l Bs o n0 b off len cap : Nat) (zs : List Int) (hreach : len * 8 ≤ 140737488351232) (hb : b < n0) (hBn : Bs < n0) (w0 : World) (J : List Int → World → Prop) (hJ : ∀ s X, J s X → Below n0 w0 X)
    (hY : ∀ pre x W, J pre W → pre.length < len → YieldAt F (n - 1) Try.prog l #[encZ x] W fun e W' => e = .returned (.bool true) ∧ J (pre ++ [x]) W')
    (W : World) (hBs0 : w0.cell? ⟨Bs, o, none⟩ = some (.slice (some ⟨b, off, none⟩) len cap)) (hc : ∀ j, j < len → w0.cell? ⟨b, off + j, none⟩ = some (.int .i64 (zs[j]?.getD 0))) (h0 : J [] W) :
    CallsIn F n Try.prog 64 #[.func (.yield l) #[] #[], .pointer (some ⟨Bs, o, none⟩)] W fun e W' => (∃ v, e = .returned v) ∧ J (upto zs len) W' := by
  have hBs := ((hJ _ _ h0).cell (p := ⟨Bs, o, none⟩) hBn).trans hBs0
  refine callsIn_of_wp Try.func64 rfl hf ?_ hro
  simp only [Try.ntmps64, List.size_toArray, List.length_cons, List.length_nil, Nat.reduceAdd, Nat.reduceSub, Array.replicate_succ, Array.replicate_zero, List.push_toArray, List.append_toArray, List.nil_append, List.cons_append]
  gi_wp2
  gi_loopw [7] (fun i wr => ∃ k : Nat, k ≤ len ∧ i = .int .i64 k ∧ J (upto zs k) wr)
    (fun i _ => len - (intOf i).toNat)
  case atStart => exact ⟨0, Nat.zero_le _, rfl, h0⟩
  case round =>
    obtain ⟨k, hk, rfl, hJs⟩ := hrel
    have hcx : k < len → wr.cell? ⟨b, off + k, none⟩ = some (.int .i64 (zs[k]?.getD 0)) := fun h => ((hJ _ _ hJs).cell (p := ⟨b, off + k, none⟩) hb).trans (hc k h)
    by_cases hlt : k < len
    · obtain ⟨fn, tmps, assign, body, hy, hR⟩ := hY _ (zs[k]?.getD 0) wr hJs (by rw [upto_length]; exact hlt)
      have hcx' := hcx hlt
      gi_wp2
      refine hR.mono ?_
      rintro e W3 ⟨rfl, hJ3⟩
      gi_wp2
      go_roundw
      case rel => exact ⟨k + 1, by omega, by simp, by rw [upto_succ]; exact hJ3⟩
      case measure => simp [intOf]; omega
    · obtain rfl : k = len := by omega
      gi_wp2
      go_end0
      exact ⟨⟨_, rfl⟩, hJs⟩

set_option maxHeartbeats 1000000 in
theorem vals_none (F : Fence) (n : Nat) (hf : F.fn 64) (hro : F.round = none) (l Bs o n0 cap : Nat) (a : Option Addr) (hBn : Bs < n0) (w0 : World) (J : List Int → World → Prop) (hJ : ∀ s X, J s X → Below n0 w0 X) (W : World) (hBs0 : w0.cell? ⟨Bs, o, none⟩ = some (.slice a 0 cap)) (h0 : J [] W) :
    CallsIn F n Try.prog 64 #[.func (.yield l) #[] #[], .pointer (some ⟨Bs, o, none⟩)] W fun e W' => (∃ v, e = .returned v) ∧ J [] W' := by
  have hBs := ((hJ _ _ h0).cell (p := ⟨Bs, o, none⟩) hBn).trans hBs0
  refine callsIn_of_wp Try.func64 rfl hf ?_ hro
  simp only [Try.ntmps64, List.size_toArray, List.length_cons, List.length_nil, Nat.reduceAdd, Nat.reduceSub, Array.replicate_succ, Array.replicate_zero, List.push_toArray, List.append_toArray, List.nil_append, List.cons_append]
  gi_wp2
  gi_loopw [7] (fun i wr => i = .int .i64 0 ∧ J [] wr) (fun _ _ => 0)
  case atStart => exact ⟨rfl, h0⟩
  case round =>
    obtain ⟨rfl, hJs⟩ := hrel
    gi_wp2
    go_end0
    exact ⟨⟨_, rfl⟩, hJs⟩

theorem sortsIn (m : Nat) : AnyZI.SortsIn Try.prog rv Fence.wide m :=
  ⟨fun blk off cap ss W hH hblk hsz => callsIn_wide.2 (Any.slices_Sort_int sortLays blk off cap ss W hH hblk hsz),
   fun p cap W => callsIn_wide.2 (Any.slices_Sort_int_none sortLays p cap W)⟩

theorem r_slices_Sorted (nl : Bool) (xs : List Int) (tl : Tail) (hz : ∀ x ∈ xs, InR .i64 x) (hln : xs.length ≤ 1000000) (h : AH) :
    RCall Try.prog 38 [.fn 64 [.sptr [.sl nl xs.length (i64s xs) tl]]] h (.sl (decide (srt xs = [])) (srt xs).length (i64s (srt xs)) .unk) := by
  refine rcall_of_row (t := rv.t 26) (fun x hx => hz x ((srt_perm xs).mem_iff.1 hx)) (by kernel_rfl) (fun s h vs w hv hs => ?_) h
  obtain ⟨v, hv0, hr⟩ := hv.at_ (j := 0) rfl
  have hvs : vs = [v] := by
    match vs, hv.1, hv0 with
    | [u], _, h => simp at h; rw [h]
  subst hvs
  obtain ⟨cs, rfl, hcs⟩ := hr.fn_inv
  obtain ⟨v1, hv1, hr1⟩ := hcs.at_ (j := 0) rfl
  have hcs1 : cs = [v1] := by
    match cs, hcs.1, hv1 with
    | [u], _, h => simp at h; rw [h]
  subst hcs1
  obtain ⟨ad, us, rfl, hsp, hus, hfx⟩ := hr1.sptr_inv
  obtain ⟨sv, hu0, hr2⟩ := hus.at_ (j := 0) rfl
  obtain ⟨B, o, sp⟩ := ad
  simp only at hsp
  subst hsp
  have hcell := (hs.fx _ _ _ (hfx 0 sv hu0)).1
  simp only [Nat.add_zero] at hcell
  have hBlt : B < w.heap.size := lt_of_cell hcell
  have hseq : SeqV Fence.wide (4 - 1 - 1 - 1) Try.prog 64 #[.pointer (some ⟨B, o, none⟩)] xs w := by
    intro l J W hJ hY h0
    obtain ⟨a, cap, ws, rfl, hws, hfx2, _⟩ := hr2.sl_inv
    rcases Nat.eq_zero_or_pos xs.length with hz0 | hpos
    · have hx0 : xs = [] := List.eq_nil_of_length_eq_zero hz0
      subst hx0
      exact vals_none Fence.wide _ trivial rfl l B o w.heap.size cap a hBlt w J hJ W hcell h0
    · have hwl : ws.length = xs.length := by rw [hws.1, i64s_len]
      obtain ⟨ad2, e2, sp2, _⟩ := hfx2 0 (ws[0]'(by omega)) (by simp)
      obtain ⟨b, off, sp3⟩ := ad2
      simp only at sp2
      subst sp2
      subst e2
      have hcx : ∀ j, j < xs.length → w.cell? ⟨b, off + j, none⟩ = some (.int .i64 (xs[j]?.getD 0)) := fun j hj => by
        obtain ⟨ad3, e3, _, f3⟩ := hfx2 j (ws[j]'(by omega)) (by simp)
        cases e3
        obtain ⟨u, u1, u2⟩ := hws.at_ (j := j) (x := .int .i64 (xs[j]?.getD 0)) (by simp [i64s, hj])
        obtain ⟨rfl, _⟩ := u2.int_inv
        have : ws[j]'(by omega) = .int .i64 (xs[j]?.getD 0) := by
          rw [List.getElem?_eq_getElem (show j < ws.length by omega)] at u1
          exact Option.some.inj u1
        rw [this] at f3
        exact (hs.fx _ _ _ f3).1
      have := vals_some Fence.wide _ trivial rfl (by omega) l B o w.heap.size b off xs.length cap xs (by omega) (lt_of_cell (hcx 0 hpos)) hBlt w J hJ hY W hcell hcx h0
      rw [upto_all] at this
      exact this
  have cS := sortedV collLays Fence.wide 4 trivial trivial trivial trivial rfl (by omega) (sortsIn _) (enters_of Try.func63 (by kernel_rfl) rfl) 64 #[.pointer (some ⟨B, o, none⟩)] trivial (enters_of Try.func64 (by kernel_rfl) rfl) xs (by simp only [maxLen]; omega) (by omega) w hseq
  have cS' := callsIn_wide.1 cS
  refine cS'.mono ?_
  rintro e w' ⟨v, rfl, h1, h2, h3⟩
  rw [srt_len]
  refine ⟨v, rfl, h1, ?_, h3⟩
  rw [h2]
  constructor
  · intro hh; subst hh; exact List.eq_nil_of_length_eq_zero (by rw [srt_len]; rfl)
  · intro hh; exact List.eq_nil_of_length_eq_zero (by rw [← srt_len, hh]; rfl)
end Go.Proofs.Ytemfmnjhhdeedaa
