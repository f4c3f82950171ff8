/- Go's Sorted over Values in this seat's program. No condition. Printed by a program of ours. -/
import Derived.Test.YtidmekdkfiljjaaGreatK27
import Derived.Test.YtidmekdkfiljjaaGreatProg
import Derived.Shelf.Slices.In.SortNone
import Derived.Test.YtidmekdkfiljjaaGreatK25
import Derived.Test.YtidmekdkfiljjaaGreatK26
import Derived.Test.YtidmekdkfiljjaaGreatK24
namespace Go.Proofs.YtidmekdkfiljjaaGreat
open Go Go.Abs Go.Shelf Go.Proofs Go.RowKit Go.Maps Go.Sort
set_option maxRecDepth 100000
set_option linter.unusedSimpArgs false
set_option linter.unusedVariables false
def rvF : Nat → Nat
  | 6 => 41
  | 8 => 60
  | 9 => 61
  | 11 => 72
  | _ => 0
def rvT : Nat → Nat
  | 0 => 0
  | 24 => 30
  | 26 => 3
  | 28 => 78
  | 33 => 65
  | _ => 0
def rv : Ren := ⟨rvF, rvT, fun x => x⟩
theorem collLays : SlLaysZI.n6 Tryz.prog rv where
  mixed := by kernel_rfl
  f6 := ⟨ "slices.Sorted[int]", by decide, by kernel_rfl⟩
  f8 := ⟨ "slices.Collect[int]", by decide, by kernel_rfl⟩
  f11 := ⟨ "slices.AppendSeq[[]int,int]", by decide, by kernel_rfl⟩
  t0 := Tryz.underlying0
  a0 := Tryz.isAgg0
  z0 := Tryz.sizeOf0
  v0 := Tryz.zeroValue0
  t24 := Tryz.underlying30
  a24 := Tryz.isAgg30
  z24 := Tryz.sizeOf30
  v24 := Tryz.zeroValue30
  t26 := Tryz.underlying3
  a26 := Tryz.isAgg3
  z26 := Tryz.sizeOf3
  v26 := Tryz.zeroValue3
  t28 := Tryz.underlying78
  a28 := Tryz.isAgg78
  z28 := Tryz.sizeOf78
  v28 := Tryz.zeroValue78
  i26 := by kernel_rfl

/-- The first k of numbers. -/
def upto (zs : List Int) (k : Nat) : List Int := (List.range k).map fun j => zs[j]?.getD 0
theorem upto_succ (zs : List Int) (k : Nat) : upto zs (k + 1) = upto zs k ++ [zs[k]?.getD 0] := by simp [upto, List.range_succ]
theorem upto_length (zs : List Int) (k : Nat) : (upto zs k).length = k := by simp [upto]
theorem upto_all (zs : List Int) : upto zs zs.length = zs := by
  apply List.ext_getElem
  · simp [upto]
  · intro i h1 h2; simp [upto, h2]

set_option maxHeartbeats 2000000 in
theorem vals_some (F : Fence) (n : Nat) (hf : F.fn 62) (hro : F.round = none) (hn : 1 ≤ n) (l Bs o n0 b off len cap : Nat) (zs : List Int) (hreach : len * 8 ≤ 140737488351232) (hb : b < n0) (hBn : Bs < n0) (w0 : World) (J : List Int → World → Prop) (hJ : ∀ s X, J s X → Below n0 w0 X)
    (hY : ∀ pre x W, J pre W → pre.length < len → YieldAt F (n - 1) Tryz.prog l #[encZ x] W fun e W' => e = .returned (.bool true) ∧ J (pre ++ [x]) W')
    (W : World) (hBs0 : w0.cell? ⟨Bs, o, none⟩ = some (.slice (some ⟨b, off, none⟩) len cap)) (hc : ∀ j, j < len → w0.cell? ⟨b, off + j, none⟩ = some (.int .i64 (zs[j]?.getD 0))) (h0 : J [] W) :
    CallsIn F n Tryz.prog 62 #[.func (.yield l) #[] #[], .pointer (some ⟨Bs, o, none⟩)] W fun e W' => (∃ v, e = .returned v) ∧ J (upto zs len) W' := by
  have hBs := ((hJ _ _ h0).cell (p := ⟨Bs, o, none⟩) hBn).trans hBs0
  refine callsIn_of_wp Tryz.func62 rfl hf ?_ hro
  simp only [Tryz.ntmps62, List.size_toArray, List.length_cons, List.length_nil, Nat.reduceAdd, Nat.reduceSub, Array.replicate_succ, Array.replicate_zero, List.push_toArray, List.append_toArray, List.nil_append, List.cons_append]
  gi_wp2
  gi_loopw [7] (fun i wr => ∃ k : Nat, k ≤ len ∧ i = .int .i64 k ∧ J (upto zs k) wr)
    (fun i _ => len - (intOf i).toNat)
  case atStart => exact ⟨0, Nat.zero_le _, rfl, h0⟩
  case round =>
    obtain ⟨k, hk, rfl, hJs⟩ := hrel
    have hcx : k < len → wr.cell? ⟨b, off + k, none⟩ = some (.int .i64 (zs[k]?.getD 0)) := fun h => ((hJ _ _ hJs).cell (p := ⟨b, off + k, none⟩) hb).trans (hc k h)
    by_cases hlt : k < len
    · obtain ⟨fn, tmps, assign, body, hy, hR⟩ := hY _ (zs[k]?.getD 0) wr hJs (by rw [upto_length]; exact hlt)
      have hcx' := hcx hlt
      gi_wp2
      refine hR.mono ?_
      rintro e W3 ⟨rfl, hJ3⟩
      gi_wp2
      go_roundw
      case rel => exact ⟨k + 1, by omega, by simp, by rw [upto_succ]; exact hJ3⟩
      case measure => simp [intOf]; omega
    · obtain rfl : k = len := by omega
      gi_wp2
      go_end0
      exact ⟨⟨_, rfl⟩, hJs⟩

set_option maxHeartbeats 1000000 in
theorem vals_none (F : Fence) (n : Nat) (hf : F.fn 62) (hro : F.round = none) (l Bs o n0 cap : Nat) (a : Option Addr) (hBn : Bs < n0) (w0 : World) (J : List Int → World → Prop) (hJ : ∀ s X, J s X → Below n0 w0 X) (W : World) (hBs0 : w0.cell? ⟨Bs, o, none⟩ = some (.slice a 0 cap)) (h0 : J [] W) :
    CallsIn F n Tryz.prog 62 #[.func (.yield l) #[] #[], .pointer (some ⟨Bs, o, none⟩)] W fun e W' => (∃ v, e = .returned v) ∧ J [] W' := by
  have hBs := ((hJ _ _ h0).cell (p := ⟨Bs, o, none⟩) hBn).trans hBs0
  refine callsIn_of_wp Tryz.func62 rfl hf ?_ hro
  simp only [Tryz.ntmps62, List.size_toArray, List.length_cons, List.length_nil, Nat.reduceAdd, Nat.reduceSub, Array.replicate_succ, Array.replicate_zero, List.push_toArray, List.append_toArray, List.nil_append, List.cons_append]
  gi_wp2
  gi_loopw [7] (fun i wr => i = .int .i64 0 ∧ J [] wr) (fun _ _ => 0)
  case atStart => exact ⟨rfl, h0⟩
  case round =>
    obtain ⟨rfl, hJs⟩ := hrel
    gi_wp2
    go_end0
    exact ⟨⟨_, rfl⟩, hJs⟩

theorem sortsIn (m : Nat) : AnyZI.SortsIn Tryz.prog rv Fence.wide m :=
  ⟨fun blk off cap ss W hH hblk hsz => callsIn_wide.2 (Any.slices_Sort_int sortLays blk off cap ss W hH hblk hsz),
   fun p cap W => callsIn_wide.2 (Any.slices_Sort_int_none sortLays p cap W)⟩

theorem r_slices_Sorted (nl : Bool) (xs : List Int) (tl : Tail) (hz : ∀ x ∈ xs, InR .i64 x) (hln : xs.length ≤ 1000000) (h : AH) :
    RCall Tryz.prog 41 [.fn 62 [.sptr [.sl nl xs.length (i64s xs) tl]]] h (.sl (decide (srt xs = [])) (srt xs).length (i64s (srt xs)) .unk) := by
  refine rcall_of_row (t := rv.t 26) (fun x hx => hz x ((srt_perm xs).mem_iff.1 hx)) (by kernel_rfl) (fun s h vs w hv hs => ?_) h
  obtain ⟨v, hv0, hr⟩ := hv.at_ (j := 0) rfl
  have hvs : vs = [v] := by
    match vs, hv.1, hv0 with
    | [u], _, h => simp at h; rw [h]
  subst hvs
  obtain ⟨cs, rfl, hcs⟩ := hr.fn_inv
  obtain ⟨v1, hv1, hr1⟩ := hcs.at_ (j := 0) rfl
  have hcs1 : cs = [v1] := by
    match cs, hcs.1, hv1 with
    | [u], _, h => simp at h; rw [h]
  subst hcs1
  obtain ⟨ad, us, rfl, hsp, hus, hfx⟩ := hr1.sptr_inv
  obtain ⟨sv, hu0, hr2⟩ := hus.at_ (j := 0) rfl
  obtain ⟨B, o, sp⟩ := ad
  simp only at hsp
  subst hsp
  have hcell := (hs.fx _ _ _ (hfx 0 sv hu0)).1
  simp only [Nat.add_zero] at hcell
  have hBlt : B < w.heap.size := lt_of_cell hcell
  have hseq : SeqV Fence.wide (4 - 1 - 1 - 1) Tryz.prog 62 #[.pointer (some ⟨B, o, none⟩)] xs w := by
    intro l J W hJ hY h0
    obtain ⟨a, cap, ws, rfl, hws, hfx2, _⟩ := hr2.sl_inv
    rcases Nat.eq_zero_or_pos xs.length with hz0 | hpos
    · have hx0 : xs = [] := List.eq_nil_of_length_eq_zero hz0
      subst hx0
      exact vals_none Fence.wide _ trivial rfl l B o w.heap.size cap a hBlt w J hJ W hcell h0
    · have hwl : ws.length = xs.length := by rw [hws.1, i64s_len]
      obtain ⟨ad2, e2, sp2, _⟩ := hfx2 0 (ws[0]'(by omega)) (by simp)
      obtain ⟨b, off, sp3⟩ := ad2
      simp only at sp2
      subst sp2
      subst e2
      have hcx : ∀ j, j < xs.length → w.cell? ⟨b, off + j, none⟩ = some (.int .i64 (xs[j]?.getD 0)) := fun j hj => by
        obtain ⟨ad3, e3, _, f3⟩ := hfx2 j (ws[j]'(by omega)) (by simp)
        cases e3
        obtain ⟨u, u1, u2⟩ := hws.at_ (j := j) (x := .int .i64 (xs[j]?.getD 0)) (by simp [i64s, hj])
        obtain ⟨rfl, _⟩ := u2.int_inv
        have : ws[j]'(by omega) = .int .i64 (xs[j]?.getD 0) := by
          rw [List.getElem?_eq_getElem (show j < ws.length by omega)] at u1
          exact Option.some.inj u1
        rw [this] at f3
        exact (hs.fx _ _ _ f3).1
      have := vals_some Fence.wide _ trivial rfl (by omega) l B o w.heap.size b off xs.length cap xs (by omega) (lt_of_cell (hcx 0 hpos)) hBlt w J hJ hY W hcell hcx h0
      rw [upto_all] at this
      exact this
  have cS := sortedV collLays Fence.wide 4 trivial trivial trivial trivial rfl (by omega) (sortsIn _) (enters_of Tryz.func61 (by kernel_rfl) rfl) 62 #[.pointer (some ⟨B, o, none⟩)] trivial (enters_of Tryz.func62 (by kernel_rfl) rfl) xs (by simp only [maxLen]; omega) (by omega) w hseq
  have cS' := callsIn_wide.1 cS
  refine cS'.mono ?_
  rintro e w' ⟨v, rfl, h1, h2, h3⟩
  rw [srt_len]
  refine ⟨v, rfl, h1, ?_, h3⟩
  rw [h2]
  constructor
  · intro hh; subst hh; exact List.eq_nil_of_length_eq_zero (by rw [srt_len]; rfl)
  · intro hh; exact List.eq_nil_of_length_eq_zero (by rw [← srt_len, hh]; rfl)
end Go.Proofs.YtidmekdkfiljjaaGreat
namespace Go.Proofs.YtidmekdkfiljjaaGreat
open Go Go.Abs Go.Shelf Go.Proofs Go.RowKit Go.Maps Go.Sort
set_option maxRecDepth 100000
set_option linter.unusedSimpArgs false
set_option linter.unusedVariables false

/-- A call with a new slice of whole numbers as its answer, at a heap. -/
theorem acall_of_row {f : FuncId} {args : List AV} {t : TypeId} {zs : List Int} (hz : ∀ x ∈ zs, InR .i64 x) (hok : callOK Tryz.prog f = true) (h' : AH)
    (H : ∀ (s : Sg) (vs : List Value) (w : World), VRels s args vs → HSim s h' w (ownOf s h') w → Calls Tryz.prog f vs.toArray w fun e w' => ∃ v : Value, e = .returned v ∧
      w'.ownsRow w.heap.size t 1 v zs.length (zs.map encZ) ∧ (v = .slice none 0 0 ↔ zs = []) ∧ Below w.heap.size w w') :
    ACalls Tryz.prog f args h' fun r h'' => r = .sl (decide (zs = [])) zs.length (i64s zs) .unk ∧ h'' = h' := by
  refine ⟨hok, fun s vs w hv hs => ?_⟩
  refine (H s vs w hv hs).mono ?_
  rintro e w' ⟨v, rfl, hrow, hnil, hb⟩
  have hlat : Later w w' := ⟨hb.block, hb.size, hb.os, hb.tape, hb.output⟩
  rcases hrow.2 with ⟨rfl, hz0⟩ | ⟨gb, cap, cur, rfl, hbase, hgb, r1, r2, r3, r4⟩
  · have hss : zs = [] := List.eq_nil_of_length_eq_zero hz0
    subst hss
    exact ⟨s, _, _, h', Sg.le.refl s, hs.later hlat, rfl, .sl true 0 [] .unk none 0 [] rfl (by simp) (by simp) rfl (fun _ => ⟨rfl, rfl⟩) (by simp) (Nat.le_refl _) (by omega) trivial, by simp [i64s], rfl⟩
  · have hne : zs ≠ [] := fun hh => by have := hnil.2 hh; cases this
    obtain ⟨f1, f2, f3⟩ := hs.new_free hbase
    have hcur : ∀ j, j < zs.length → cur[j]? = some (.int .i64 (zs.getD j 0)) := fun j hj => by
      have e1 : (cur.toList.take (zs.length * 1))[j]? = (zs.map encZ)[j]? := by rw [r4]
      rw [List.getElem?_take, if_pos (by omega)] at e1
      simp only [Array.getElem?_toList] at e1
      rw [e1]
      simp [encZ, hj, List.getD]
    obtain ⟨a1, a2⟩ := (hs.later hlat).addFx hgb (zs.map fun x => Value.int .i64 x) (fun j v hj => by
      by_cases hjz : j < zs.length
      · rw [hcur j hjz]
        simp [hjz] at hj
        simp [hjz, List.getD, hj]
      · simp [show zs.length ≤ j by omega] at hj) (fun v hv => by obtain ⟨x, _, rfl⟩ := List.mem_map.1 hv; rfl) f1 f2 f3
    refine ⟨_, _, _, h', a1, a2, rfl, ?_, rfl, rfl⟩
    have hd : decide (zs = []) = false := decide_eq_false hne
    rw [hd]
    refine .sl false zs.length (i64s zs) .unk (some ⟨gb, 0, none⟩) cap (zs.map fun x => Value.int .i64 x) (by simp [i64s]) (fun j x u hx hu => ?_) (fun j u hu => ⟨_, rfl, rfl, ?_⟩) rfl (by simp) (fun ad h _ => by cases h; rfl) r1 (by have := r2; simp only [maxLen] at this; omega) trivial
    · by_cases hjz : j < zs.length
      · simp [i64s, hjz] at hx hu
        rw [← hx, ← hu]
        exact .int .i64 _ (hz _ (List.getElem_mem hjz))
      · simp [i64s, show zs.length ≤ j by omega] at hx
    · simp only [Sg.fxNew, if_pos rfl, Nat.zero_add]
      exact hu
theorem r_slices_ValuesM (b n q : Nat) (h : AH) : RCall Tryz.prog n_slices_Values_intX [.msl b 0 n (some q)] h (.fn 62 [.sptr [.msl b 0 n (some q)]]) := by
  refine RCall.of hm cF_slices_Values_intX (by simp [g_slices_Values_intX]) fun hw h' hl => ?_
  simp only [F_slices_Values_intX, g_slices_Values_intX, go_sem, ↓tq_n, ↓tq_e, ↓tq_r, ↓bq_n, ↓bq_e, ↓bq_r, ↓rq_n, ↓rq_r, ↓rq_e]
  exact ret_ok rfl
theorem r_slices_SortedM (xs : List Int) (b q : Nat) (more : List AV) (hz : ∀ x ∈ xs, InR .i64 x) (hpos : 0 < xs.length) (hln : xs.length ≤ 1000000) (h : AH) (hbk : h.blk b = some (i64s xs ++ more)) :
    RCall Tryz.prog 41 [.fn 62 [.sptr [.msl b 0 xs.length (some q)]]] h (.sl false (srt xs).length (i64s (srt xs)) .unk) := by
  intro h' hl
  have hbk := hl.1 _ _ hbk
  have hne : decide (srt xs = []) = false := decide_eq_false fun hh => by
    have := srt_len xs
    rw [hh] at this
    simp at this
    omega
  rw [← hne]
  refine acall_of_row (t := rv.t 26) (fun x hx => hz x ((srt_perm xs).mem_iff.1 hx)) (by kernel_rfl) h' (fun s vs w hv hs => ?_)
  obtain ⟨v, hv0, hr⟩ := hv.at_ (j := 0) rfl
  have hvs : vs = [v] := by
    match vs, hv.1, hv0 with
    | [u], _, h => simp at h; rw [h]
  subst hvs
  obtain ⟨cs, rfl, hcs⟩ := hr.fn_inv
  obtain ⟨v1, hv1, hr1⟩ := hcs.at_ (j := 0) rfl
  have hcs1 : cs = [v1] := by
    match cs, hcs.1, hv1 with
    | [u], _, h => simp at h; rw [h]
  subst hcs1
  obtain ⟨ad, us, rfl, hsp, hus, hfx⟩ := hr1.sptr_inv
  obtain ⟨sv, hu0, hr2⟩ := hus.at_ (j := 0) rfl
  obtain ⟨B, o, sp⟩ := ad
  simp only at hsp
  subst hsp
  have hcell := (hs.fx _ _ _ (hfx 0 sv hu0)).1
  simp only [Nat.add_zero] at hcell
  have hBlt : B < w.heap.size := lt_of_cell hcell
  have hseq : SeqV Fence.wide (4 - 1 - 1 - 1) Tryz.prog 62 #[.pointer (some ⟨B, o, none⟩)] xs w := by
    intro l J W hJ hY h0
    obtain ⟨c, kk, rfl, hc, _, _, _⟩ := hr2.msl_inv
    obtain ⟨c', ws, ty, k1, k2, k3, k4, _, _⟩ := hs.blk b _ hbk
    rw [hc] at k1
    cases k1
    have hcx : ∀ j, j < xs.length → w.cell? ⟨c, 0 + j, none⟩ = some (.int .i64 (xs[j]?.getD 0)) := fun j hj => by
      obtain ⟨v, v1, _, v2⟩ := k4 j (.int .i64 (xs[j]?.getD 0)) (by rw [List.getElem?_append_left (by rw [i64s_len]; exact hj)]; simp [i64s, hj])
      obtain ⟨rfl, _⟩ := v2.int_inv
      simp only [World.cell?, k2, Nat.zero_add]
      exact v1
    have := vals_some Fence.wide _ trivial rfl (by omega) l B o w.heap.size c 0 xs.length kk xs (by omega) (lt_of_cell (hcx 0 hpos)) hBlt w J hJ hY W hcell hcx h0
    rw [upto_all] at this
    exact this
  have cS := sortedV collLays Fence.wide 4 trivial trivial trivial trivial rfl (by omega) (sortsIn _) (enters_of Tryz.func61 (by kernel_rfl) rfl) 62 #[.pointer (some ⟨B, o, none⟩)] trivial (enters_of Tryz.func62 (by kernel_rfl) rfl) xs (by simp only [maxLen]; omega) (by omega) w hseq
  have cS' := callsIn_wide.1 cS
  refine cS'.mono ?_
  rintro e w' ⟨v, rfl, h1, h2, h3⟩
  rw [srt_len]
  refine ⟨v, rfl, h1, ?_, h3⟩
  rw [h2]
  constructor
  · intro hh; subst hh; exact List.eq_nil_of_length_eq_zero (by rw [srt_len]; rfl)
  · intro hh; exact List.eq_nil_of_length_eq_zero (by rw [← srt_len, hh]; rfl)
end Go.Proofs.YtidmekdkfiljjaaGreat
namespace Go.Proofs.YtidmekdkfiljjaaGreat
open Go Go.Abs
set_option linter.unusedSimpArgs false
set_option linter.unusedVariables false
set_option maxRecDepth 20000

theorem r_slices_Index_int (nl : Bool) (e : List Int) (tl : Tail) (v : Int) (h : AH) :
    RCall Tryz.prog n_slices_Index_int [.sl nl e.length (i64s e) tl, I v] h (I (findI (fun i => decide (v = e.getD i 0)) e.length)) := by
  refine RCall.of hm cF_slices_Index_int (by simp [g_slices_Index_int]) fun hw h' hl => ?_
  have hx := wf_len (hw _ (.head _))
  simp only [F_slices_Index_int, g_slices_Index_int, go_sem, ↓tq_n, ↓tq_e, ↓tq_r, ↓bq_n, ↓bq_e, ↓bq_r, ↓rq_n, ↓rq_r, ↓rq_e]
  refine awp_loop (fun i : Nat => [(0, .sl nl e.length (i64s e) tl), (1, I v), (7, I e.length), (8, I i)]) (fun _ => h') (fun i => i ≤ e.length ∧ ∀ j, j < i → (fun i => decide (v = e.getD i 0)) j = false) (fun i => e.length - i) 0 ⟨by omega, by omega⟩ (GStep.forget (by repeat' first | exact EnvLe.nil _ | refine EnvLe.cons (AV.le.of_eq rfl) ?_ | refine EnvLe.cons (AV.le.undef _) ?_ | refine EnvLe.cons AV.le.unk ?_) (by repeat' first | exact AH.le.refl _ | assumption | (refine AH.le_put ?_ (by first | assumption | exact (AH.blk_put_ne _ _ (by assumption)).trans (by assumption) | exact AH.none_put (by assumption) | exact AH.none_put (AH.none_put (by assumption)) | (simp only [AH.blk_setTok, AH.tok_put] at *; first | assumption | exact AH.none_put (by assumption)))) | (refine AH.le_setTok ?_ (by first | assumption | exact (AH.blk_put_ne _ _ (by assumption)).trans (by assumption) | exact AH.none_put (by assumption) | exact AH.none_put (AH.none_put (by assumption)) | (simp only [AH.blk_setTok, AH.tok_put] at *; first | assumption | exact AH.none_put (by assumption)))) | (refine AH.le_putM ?_ (by first | assumption | exact (AH.mp_putM_ne _ _ (by assumption)).trans (by assumption) | (simp only [AH.mp_put, AH.mp_setTok] at *; assumption))))) fun i hi => .of_vg hm ?_
  obtain ⟨h1, h2⟩ := hi
  simp only [F_slices_Index_int, g_slices_Index_int, go_sem, ↓tq_n, ↓tq_e, ↓tq_r, ↓bq_n, ↓bq_e, ↓bq_r, ↓rq_n, ↓rq_r, ↓rq_e]
  refine ⟨fun hc => ?_, fun hc => ?_⟩
  · have h3 : i < e.length := by omega
    simp only [i64s_drop h3, F_slices_Index_int, g_slices_Index_int, go_sem, ↓tq_n, ↓tq_e, ↓tq_r, ↓bq_n, ↓bq_e, ↓bq_r, ↓rq_n, ↓rq_r, ↓rq_e]
    refine ⟨by omega, fun hp => ?_, fun hp => ?_⟩
    · refine ret_hb (by repeat' first | exact AH.le.refl _ | assumption | (refine AH.le_put ?_ (by first | assumption | exact (AH.blk_put_ne _ _ (by assumption)).trans (by assumption) | exact AH.none_put (by assumption) | exact AH.none_put (AH.none_put (by assumption)) | (simp only [AH.blk_setTok, AH.tok_put] at *; first | assumption | exact AH.none_put (by assumption)))) | (refine AH.le_setTok ?_ (by first | assumption | exact (AH.blk_put_ne _ _ (by assumption)).trans (by assumption) | exact AH.none_put (by assumption) | exact AH.none_put (AH.none_put (by assumption)) | (simp only [AH.blk_setTok, AH.tok_put] at *; first | assumption | exact AH.none_put (by assumption)))) | (refine AH.le_putM ?_ (by first | assumption | exact (AH.mp_putM_ne _ _ (by assumption)).trans (by assumption) | (simp only [AH.mp_put, AH.mp_setTok] at *; assumption)))) ?_
      rw [findI_at (p := fun i => decide (v = e.getD i 0)) (by simpa using hp) h2 h3]
    · exact ⟨by rw [inR64]; omega, i + 1, ⟨by omega, fun j hj => by rcases Nat.lt_succ_iff_lt_or_eq.1 hj with h | rfl; exact of_decide_eq_false (h2 j h); exact hp⟩, by omega, (GStep.forget (by repeat' first | exact EnvLe.nil _ | refine EnvLe.cons (AV.le.of_eq rfl) ?_ | refine EnvLe.cons (AV.le.undef _) ?_ | refine EnvLe.cons AV.le.unk ?_) (by repeat' first | exact AH.le.refl _ | assumption | (refine AH.le_put ?_ (by first | assumption | exact (AH.blk_put_ne _ _ (by assumption)).trans (by assumption) | exact AH.none_put (by assumption) | exact AH.none_put (AH.none_put (by assumption)) | (simp only [AH.blk_setTok, AH.tok_put] at *; first | assumption | exact AH.none_put (by assumption)))) | (refine AH.le_setTok ?_ (by first | assumption | exact (AH.blk_put_ne _ _ (by assumption)).trans (by assumption) | exact AH.none_put (by assumption) | exact AH.none_put (AH.none_put (by assumption)) | (simp only [AH.blk_setTok, AH.tok_put] at *; first | assumption | exact AH.none_put (by assumption)))) | (refine AH.le_putM ?_ (by first | assumption | exact (AH.mp_putM_ne _ _ (by assumption)).trans (by assumption) | (simp only [AH.mp_put, AH.mp_setTok] at *; assumption)))))⟩
  · have h3 : i = e.length := by omega
    subst h3
    refine ret_hb (by repeat' first | exact AH.le.refl _ | assumption | (refine AH.le_put ?_ (by first | assumption | exact (AH.blk_put_ne _ _ (by assumption)).trans (by assumption) | exact AH.none_put (by assumption) | exact AH.none_put (AH.none_put (by assumption)) | (simp only [AH.blk_setTok, AH.tok_put] at *; first | assumption | exact AH.none_put (by assumption)))) | (refine AH.le_setTok ?_ (by first | assumption | exact (AH.blk_put_ne _ _ (by assumption)).trans (by assumption) | exact AH.none_put (by assumption) | exact AH.none_put (AH.none_put (by assumption)) | (simp only [AH.blk_setTok, AH.tok_put] at *; first | assumption | exact AH.none_put (by assumption)))) | (refine AH.le_putM ?_ (by first | assumption | exact (AH.mp_putM_ne _ _ (by assumption)).trans (by assumption) | (simp only [AH.mp_put, AH.mp_setTok] at *; assumption)))) ?_
    rw [findI_neg h2]
theorem r_slices_Contains_int (nl : Bool) (e : List Int) (tl : Tail) (v : Int) (h : AH) : RCall Tryz.prog n_slices_Contains_int [.sl nl e.length (i64s e) tl, I v] h (.bool (decide (v ∈ e))) := by
  refine RCall.of hm cF_slices_Contains_int (by simp [g_slices_Contains_int]) fun hw h' hl => ?_
  simp only [F_slices_Contains_int, g_slices_Contains_int, go_sem, ↓tq_n, ↓tq_e, ↓tq_r, ↓bq_n, ↓bq_e, ↓bq_r, ↓rq_n, ↓rq_r, ↓rq_e]
  refine CallG.mk (r_slices_Index_int nl e tl v h') ?_
  simp only [F_slices_Contains_int, g_slices_Contains_int, go_sem, ↓tq_n, ↓tq_e, ↓tq_r, ↓bq_n, ↓bq_e, ↓bq_r, ↓rq_n, ↓rq_r, ↓rq_e]
  refine ret_hb (by repeat' first | exact AH.le.refl _ | assumption | (refine AH.le_put ?_ (by first | assumption | exact (AH.blk_put_ne _ _ (by assumption)).trans (by assumption) | exact AH.none_put (by assumption) | exact AH.none_put (AH.none_put (by assumption)) | (simp only [AH.blk_setTok, AH.tok_put] at *; first | assumption | exact AH.none_put (by assumption)))) | (refine AH.le_setTok ?_ (by first | assumption | exact (AH.blk_put_ne _ _ (by assumption)).trans (by assumption) | exact AH.none_put (by assumption) | exact AH.none_put (AH.none_put (by assumption)) | (simp only [AH.blk_setTok, AH.tok_put] at *; first | assumption | exact AH.none_put (by assumption)))) | (refine AH.le_putM ?_ (by first | assumption | exact (AH.mp_putM_ne _ _ (by assumption)).trans (by assumption) | (simp only [AH.mp_put, AH.mp_setTok] at *; assumption)))) ?_
  rw [findI_mem]

/-- The table of ways home. -/
noncomputable def hmL (n : Nat) (a : List (Int × Int)) (v : Nat) : List Int := (List.range n).map fun x => (hmN a v x : Int)
theorem hmL_len (n : Nat) (a : List (Int × Int)) (v : Nat) : (hmL n a v).length = n := by simp [hmL]
theorem hmL_get {n : Nat} {a : List (Int × Int)} {v x : Nat} (hx : x < n) : (hmL n a v).getD x 0 = (hmN a v x : Int) := by simp [hmL, List.getD, hx]
theorem s_measure (n : Nat) (n1 : Bool) (a : List (Int × Int)) (u1 : Tail) (he : Ev n a) (v : Nat) (hv : v < n) (bs : Nat) (hh x bv : AV) (h : AH) (hb : h.blk bs = some [I n, .sl n1 a.length (prs a) u1, hh, x, bv]) :
    ACalls Tryz.prog n_contradiction_search_measure [.ptr bs 0, I v] h (fun r h'' => ∃ bh, h.blk bh = none ∧ r = .tup [] ∧ h'' = (h.put bs [I n, .sl n1 a.length (prs a) u1, .msl bh 0 n (some n), x, bv]).put bh (i64s (hmL n a v))) := by
  refine ACalls.of hm cF_contradiction_search_measure (by simp [g_contradiction_search_measure]) fun hw => ?_
  have hn : n ≤ 24 := by have := he.2.1; omega
  have ha := he.2.2.1
  have hfn : ∀ k, k < a.length → fr a k < n := fun k hk => (ev_k he hk).2.1
  simp only [hb, F_contradiction_search_measure, g_contradiction_search_measure, go_sem, ↓tq_n, ↓tq_e, ↓tq_r, ↓bq_n, ↓bq_e, ↓bq_r, ↓rq_n, ↓rq_r, ↓rq_e]
  refine MakeG.mk (by omega) (Int.le_refl _) (by omega) (by omega) fun bh hbh => ?_
  rw [flat_rep]
  have hne : bs ≠ bh := fun hh => by subst hh; rw [hbh] at hb; cases hb
  have hrd : ∀ (g : AH) X, (g.put bh X).blk bs = g.blk bs := fun g X => AH.blk_put_ne _ _ hne
  simp only [hrd, hb, F_contradiction_search_measure, g_contradiction_search_measure, go_sem, ↓tq_n, ↓tq_e, ↓tq_r, ↓bq_n, ↓bq_e, ↓bq_r, ↓rq_n, ↓rq_r, ↓rq_e]
  rw [AH.put_comm _ _ _ (fun hh => hne hh.symm)]
  refine awp_loop (α := Nat × List Int × List Int) (fun y => [(0, .ptr bs 0), (1, I v), (4, gl (i64s y.2.1) y.2.1.length .unk), (5, I y.1)]) (fun y => (h.put bs [I n, .sl n1 a.length (prs a) u1, .msl bh 0 n (some n), x, bv]).put bh (i64s y.2.2)) (fun y => 1 ≤ y.1 ∧ y.1 ≤ n + 1 ∧ Rch a v y.1 y.2.1 ∧ HmT n a v y.1 y.2.2 ∧ y.2.1.length ≤ 40) (fun y => n + 3 - y.1) (1, [(v : Int)], List.replicate n 0) ⟨Nat.le_refl _, by omega, rch_one a v, hmT_one n a v, by simp⟩ ?_ fun y hy => .of_vg hm ?_
  · simp only [i64s, List.map_replicate]
    refine GStep.forget ?_ (.refl _)
    exact .cons (AV.le.of_eq rfl) (.cons (AV.le.of_eq rfl) (.cons AV.le.unk (.cons (AV.le.of_eq rfl) (.nil _))))
  obtain ⟨s, R, d⟩ := y
  obtain ⟨h1, h2, h3, h4, h4'⟩ := hy
  simp only at h1 h2 h3 h4 h4' ⊢
  rcases Nat.eq_zero_or_pos R.length with hR0 | hR0
  · have hRe : R = [] := List.eq_nil_of_length_eq_zero hR0
    subst hRe
    have hz : ¬ (0 : Int) < ((0 : Nat) : Int) := by omega
    simp only [gl, hz, List.length_nil, F_contradiction_search_measure, g_contradiction_search_measure, go_sem, ↓tq_n, ↓tq_e, ↓tq_r, ↓bq_n, ↓bq_e, ↓bq_r, ↓rq_n, ↓rq_r, ↓rq_e]
    refine ⟨_, _, RGh.refl _ _, bh, hbh, rfl, ?_⟩
    have : d = hmL n a v := getD_gext 0 (by rw [h4.1, hmL_len]) fun j hj => by
      rw [h4.1] at hj
      rw [hmT_end h1 h3 h4 rfl hj, hmL_get hj]
    rw [this]
  have hRne : R ≠ [] := fun hh => by rw [hh] at hR0; simp at hR0
  have hsn := rch_le hfn hv h3 hRne
  have hRc : (0 : Int) < (R.length : Int) := by omega
  simp only [gl_pos hR0, hRc, hrd, F_contradiction_search_measure, g_contradiction_search_measure, go_sem, ↓tq_n, ↓tq_e, ↓tq_r, ↓bq_n, ↓bq_e, ↓bq_r, ↓rq_n, ↓rq_r, ↓rq_e]
  refine awp_tok 6 1 (nl := true) (n := 0) (cs := []) rfl fun t ht => ?_
  refine awp_loop (α := Nat × List Int × List Int) (fun y => [(0, .ptr bs 0), (1, I v), (4, .sl false R.length (i64s R) .unk), (5, I s), (6, gl (i64s y.2.2) y.2.2.length (.tok t)), (27, .sl n1 a.length (prs a) u1), (28, I a.length), (29, I y.1)]) (fun y => ((h.setTok t y.2.2.length 1).put bs [I n, .sl n1 a.length (prs a) u1, .msl bh 0 n (some n), x, bv]).put bh (i64s y.2.1)) (fun y => y.1 ≤ a.length ∧ HmI n a v s y.1 R y.2.1 y.2.2 ∧ y.2.2.length ≤ y.1) (fun y => a.length - y.1) (0, d, []) ⟨Nat.zero_le _, hmI_zero h1 h4, Nat.le_refl _⟩ (GStep.forget (by repeat' first | exact EnvLe.nil _ | refine EnvLe.cons (AV.le.of_eq rfl) ?_ | refine EnvLe.cons (AV.le.undef _) ?_ | refine EnvLe.cons AV.le.unk ?_) (by repeat' first | exact AH.le.refl _ | assumption | (refine AH.le_put ?_ (by first | assumption | exact (AH.blk_put_ne _ _ (by assumption)).trans (by assumption) | exact AH.none_put (by assumption) | exact AH.none_put (AH.none_put (by assumption)) | (simp only [AH.blk_setTok, AH.tok_put] at *; first | assumption | exact AH.none_put (by assumption)))) | (refine AH.le_setTok ?_ (by first | assumption | exact (AH.blk_put_ne _ _ (by assumption)).trans (by assumption) | exact AH.none_put (by assumption) | exact AH.none_put (AH.none_put (by assumption)) | (simp only [AH.blk_setTok, AH.tok_put] at *; first | assumption | exact AH.none_put (by assumption)))) | (refine AH.le_putM ?_ (by first | assumption | exact (AH.mp_putM_ne _ _ (by assumption)).trans (by assumption) | (simp only [AH.mp_put, AH.mp_setTok] at *; assumption))))) fun y hy => .of_vg hm ?_
  obtain ⟨i, d, X⟩ := y
  obtain ⟨h5, h6, h7⟩ := hy
  simp only at h5 h6 h7 ⊢
  by_cases h8 : i < a.length
  case neg =>
    have h8 : i = a.length := by omega
    subst h8
    obtain ⟨k1, k2⟩ := hmI_end h1 hfn hv h3 h6
    simp only [F_contradiction_search_measure, g_contradiction_search_measure, go_sem, ↓tq_n, ↓tq_e, ↓tq_r, ↓bq_n, ↓bq_e, ↓bq_r, ↓rq_n, ↓rq_r, ↓rq_e]
    refine ⟨by rw [inR64]; omega, (s + 1, X, d), ⟨by simp only; omega, by simp only; omega, k2, k1, by simp only; omega⟩, by simp only; omega, ?_⟩
    refine GStep.forget ?_ ?_
    · exact .cons (AV.le.of_eq rfl) (.cons (AV.le.of_eq rfl) (.cons .glU (.cons (AV.le.of_eq rfl) (.nil _))))
    · exact AH.le_put2 (AH.le_put2 (AH.le_setTok (.refl _) (by exact ht)))
  have hcj : (i : Int) < (a.length : Int) := by omega
  obtain ⟨e1, e2, e3, e4⟩ := ev_k he h8
  have hdl := h6.1
  have f1 : fr a i < d.length := by omega
  have hfi0 : (0 : Int) ≤ (fr a i : Int) := by omega
  have hfin : (fr a i : Int) < (n : Int) := by omega
  by_cases c1 : v ≤ fr a i
  case neg =>
    have c1' : ¬ (v : Int) ≤ (fr a i : Int) := by omega
    simp only [hcj, prs_drop h8, e1, c1', F_contradiction_search_measure, g_contradiction_search_measure, go_sem, ↓tq_n, ↓tq_e, ↓tq_r, ↓bq_n, ↓bq_e, ↓bq_r, ↓rq_n, ↓rq_r, ↓rq_e]
    exact ⟨by rw [inR64]; omega, (i + 1, d, X), ⟨by simp only; omega, hmI_no h6 (fun hh => c1 hh.1), by simp only; omega⟩, by simp only; omega, (GStep.forget (by repeat' first | exact EnvLe.nil _ | refine EnvLe.cons (AV.le.of_eq rfl) ?_ | refine EnvLe.cons (AV.le.undef _) ?_ | refine EnvLe.cons AV.le.unk ?_) (by repeat' first | exact AH.le.refl _ | assumption | (refine AH.le_put ?_ (by first | assumption | exact (AH.blk_put_ne _ _ (by assumption)).trans (by assumption) | exact AH.none_put (by assumption) | exact AH.none_put (AH.none_put (by assumption)) | (simp only [AH.blk_setTok, AH.tok_put] at *; first | assumption | exact AH.none_put (by assumption)))) | (refine AH.le_setTok ?_ (by first | assumption | exact (AH.blk_put_ne _ _ (by assumption)).trans (by assumption) | exact AH.none_put (by assumption) | exact AH.none_put (AH.none_put (by assumption)) | (simp only [AH.blk_setTok, AH.tok_put] at *; first | assumption | exact AH.none_put (by assumption)))) | (refine AH.le_putM ?_ (by first | assumption | exact (AH.mp_putM_ne _ _ (by assumption)).trans (by assumption) | (simp only [AH.mp_put, AH.mp_setTok] at *; assumption)))))⟩
  have c1' : (v : Int) ≤ (fr a i : Int) := by omega
  by_cases c2 : d.getD (fr a i) 0 = 0
  case neg =>
    simp only [hcj, prs_drop h8, e1, c1', hrd, hfi0, hfin, i64s_drop f1, c2, F_contradiction_search_measure, g_contradiction_search_measure, go_sem, ↓tq_n, ↓tq_e, ↓tq_r, ↓bq_n, ↓bq_e, ↓bq_r, ↓rq_n, ↓rq_r, ↓rq_e]
    exact ⟨by rw [inR64]; omega, (i + 1, d, X), ⟨by simp only; omega, hmI_no h6 (fun hh => c2 hh.2.1), by simp only; omega⟩, by simp only; omega, (GStep.forget (by repeat' first | exact EnvLe.nil _ | refine EnvLe.cons (AV.le.of_eq rfl) ?_ | refine EnvLe.cons (AV.le.undef _) ?_ | refine EnvLe.cons AV.le.unk ?_) (by repeat' first | exact AH.le.refl _ | assumption | (refine AH.le_put ?_ (by first | assumption | exact (AH.blk_put_ne _ _ (by assumption)).trans (by assumption) | exact AH.none_put (by assumption) | exact AH.none_put (AH.none_put (by assumption)) | (simp only [AH.blk_setTok, AH.tok_put] at *; first | assumption | exact AH.none_put (by assumption)))) | (refine AH.le_setTok ?_ (by first | assumption | exact (AH.blk_put_ne _ _ (by assumption)).trans (by assumption) | exact AH.none_put (by assumption) | exact AH.none_put (AH.none_put (by assumption)) | (simp only [AH.blk_setTok, AH.tok_put] at *; first | assumption | exact AH.none_put (by assumption)))) | (refine AH.le_putM ?_ (by first | assumption | exact (AH.mp_putM_ne _ _ (by assumption)).trans (by assumption) | (simp only [AH.mp_put, AH.mp_setTok] at *; assumption)))))⟩
  simp only [hcj, prs_drop h8, e1, c1', hrd, hfi0, hfin, i64s_drop f1, c2, F_contradiction_search_measure, g_contradiction_search_measure, go_sem, ↓tq_n, ↓tq_e, ↓tq_r, ↓bq_n, ↓bq_e, ↓bq_r, ↓rq_n, ↓rq_r, ↓rq_e]
  refine CallG.mk (r_slices_Contains_int false R .unk (tt a i) _) ?_
  by_cases c3 : (tt a i : Int) ∈ R
  case neg =>
    simp only [decide_eq_false c3, F_contradiction_search_measure, g_contradiction_search_measure, go_sem, ↓tq_n, ↓tq_e, ↓tq_r, ↓bq_n, ↓bq_e, ↓bq_r, ↓rq_n, ↓rq_r, ↓rq_e]
    exact ⟨by rw [inR64]; omega, (i + 1, d, X), ⟨by simp only; omega, hmI_no h6 (fun hh => c3 hh.2.2), by simp only; omega⟩, by simp only; omega, (GStep.forget (by repeat' first | exact EnvLe.nil _ | refine EnvLe.cons (AV.le.of_eq rfl) ?_ | refine EnvLe.cons (AV.le.undef _) ?_ | refine EnvLe.cons AV.le.unk ?_) (by repeat' first | exact AH.le.refl _ | assumption | (refine AH.le_put ?_ (by first | assumption | exact (AH.blk_put_ne _ _ (by assumption)).trans (by assumption) | exact AH.none_put (by assumption) | exact AH.none_put (AH.none_put (by assumption)) | (simp only [AH.blk_setTok, AH.tok_put] at *; first | assumption | exact AH.none_put (by assumption)))) | (refine AH.le_setTok ?_ (by first | assumption | exact (AH.blk_put_ne _ _ (by assumption)).trans (by assumption) | exact AH.none_put (by assumption) | exact AH.none_put (AH.none_put (by assumption)) | (simp only [AH.blk_setTok, AH.tok_put] at *; first | assumption | exact AH.none_put (by assumption)))) | (refine AH.le_putM ?_ (by first | assumption | exact (AH.mp_putM_ne _ _ (by assumption)).trans (by assumption) | (simp only [AH.mp_put, AH.mp_setTok] at *; assumption)))))⟩
  have hys := hmI_yes h1 h3 h6 c1 c2 c3 e2 h8
  by_cases c4 : fr a i = v
  · have c4' : (fr a i : Int) = (v : Int) := by rw [c4]
    rw [if_pos c4, c4] at hys
    simp only [decide_eq_true c3, hrd, hfi0, hfin, c4', F_contradiction_search_measure, g_contradiction_search_measure, go_sem, ↓tq_n, ↓tq_e, ↓tq_r, ↓bq_n, ↓bq_e, ↓bq_r, ↓rq_n, ↓rq_r, ↓rq_e]
    refine ⟨by omega, by rw [i64s_len]; omega, by rw [inR64]; omega, (i + 1, d.set v (s : Int), X), ⟨by simp only; omega, hys, by simp only; omega⟩, by simp only; omega, ?_⟩
    rw [i64s_set]
    exact (GStep.forget (by repeat' first | exact EnvLe.nil _ | refine EnvLe.cons (AV.le.of_eq rfl) ?_ | refine EnvLe.cons (AV.le.undef _) ?_ | refine EnvLe.cons AV.le.unk ?_) (by repeat' first | exact AH.le.refl _ | assumption | (refine AH.le_put ?_ (by first | assumption | exact (AH.blk_put_ne _ _ (by assumption)).trans (by assumption) | exact AH.none_put (by assumption) | exact AH.none_put (AH.none_put (by assumption)) | (simp only [AH.blk_setTok, AH.tok_put] at *; first | assumption | exact AH.none_put (by assumption)))) | (refine AH.le_setTok ?_ (by first | assumption | exact (AH.blk_put_ne _ _ (by assumption)).trans (by assumption) | exact AH.none_put (by assumption) | exact AH.none_put (AH.none_put (by assumption)) | (simp only [AH.blk_setTok, AH.tok_put] at *; first | assumption | exact AH.none_put (by assumption)))) | (refine AH.le_putM ?_ (by first | assumption | exact (AH.mp_putM_ne _ _ (by assumption)).trans (by assumption) | (simp only [AH.mp_put, AH.mp_setTok] at *; assumption)))))
  · have c4' : ¬ (fr a i : Int) = (v : Int) := by omega
    rw [if_neg c4] at hys
    simp only [decide_eq_true c3, hrd, hfi0, hfin, c4', F_contradiction_search_measure, g_contradiction_search_measure, go_sem, ↓tq_n, ↓tq_e, ↓tq_r, ↓bq_n, ↓bq_e, ↓bq_r, ↓rq_n, ↓rq_r, ↓rq_e]
    refine ⟨by rw [i64s_len]; omega, by rw [i64s_len], by omega, by omega, by rw [inR64]; omega, (i + 1, d.set (fr a i) (s : Int), X ++ [(fr a i : Int)]), ⟨by simp only; omega, hys, by simp; omega⟩, by simp only; omega, ?_⟩
    rw [i64s_set, i64s_append, List.length_append]
    exact (GStep.forget (by repeat' first | exact EnvLe.nil _ | refine EnvLe.cons (AV.le.of_eq rfl) ?_ | refine EnvLe.cons (AV.le.undef _) ?_ | refine EnvLe.cons AV.le.unk ?_) (by repeat' first | exact AH.le.refl _ | assumption | (refine AH.le_put ?_ (by first | assumption | exact (AH.blk_put_ne _ _ (by assumption)).trans (by assumption) | exact AH.none_put (by assumption) | exact AH.none_put (AH.none_put (by assumption)) | (simp only [AH.blk_setTok, AH.tok_put] at *; first | assumption | exact AH.none_put (by assumption)))) | (refine AH.le_setTok ?_ (by first | assumption | exact (AH.blk_put_ne _ _ (by assumption)).trans (by assumption) | exact AH.none_put (by assumption) | exact AH.none_put (AH.none_put (by assumption)) | (simp only [AH.blk_setTok, AH.tok_put] at *; first | assumption | exact AH.none_put (by assumption)))) | (refine AH.le_putM ?_ (by first | assumption | exact (AH.mp_putM_ne _ _ (by assumption)).trans (by assumption) | (simp only [AH.mp_put, AH.mp_setTok] at *; assumption)))))
end Go.Proofs.YtidmekdkfiljjaaGreat
namespace Go.Proofs.YtidmekdkfiljjaaGreat
open Go Go.Abs
set_option linter.unusedSimpArgs false
set_option linter.unusedVariables false
set_option maxRecDepth 20000

theorem r_cmp_isNaN_int (a : Int) (h : AH) : RCall Tryz.prog n_cmp_isNaN_int [I a] h (.bool false) := by
  refine RCall.of hm cF_cmp_isNaN_int (by simp [g_cmp_isNaN_int]) fun hw h' hl => ?_
  simp only [F_cmp_isNaN_int, g_cmp_isNaN_int, go_sem, ↓tq_n, ↓tq_e, ↓tq_r, ↓bq_n, ↓bq_e, ↓bq_r, ↓rq_n, ↓rq_r, ↓rq_e]
  exact ret_ok (by simp)
/-- How two numbers compare. -/
def cmpI (a b : Int) : Int := if a < b then -1 else if b < a then 1 else 0
theorem r_cmp_Compare_int (a b : Int) (h : AH) : RCall Tryz.prog n_cmp_Compare_int [I a, I b] h (I (cmpI a b)) := by
  refine RCall.of hm cF_cmp_Compare_int (by simp [g_cmp_Compare_int]) fun hw h' hl => ?_
  simp only [F_cmp_Compare_int, g_cmp_Compare_int, go_sem, ↓tq_n, ↓tq_e, ↓tq_r, ↓bq_n, ↓bq_e, ↓bq_r, ↓rq_n, ↓rq_r, ↓rq_e]
  refine CallG.mk (r_cmp_isNaN_int a _) ?_
  simp only [F_cmp_Compare_int, g_cmp_Compare_int, go_sem, ↓tq_n, ↓tq_e, ↓tq_r, ↓bq_n, ↓bq_e, ↓bq_r, ↓rq_n, ↓rq_r, ↓rq_e]
  refine CallG.mk (r_cmp_isNaN_int b _) ?_
  simp only [F_cmp_Compare_int, g_cmp_Compare_int, go_sem, ↓tq_n, ↓tq_e, ↓tq_r, ↓bq_n, ↓bq_e, ↓bq_r, ↓rq_n, ↓rq_r, ↓rq_e]
  refine ⟨fun h1 => ret_ok (by simp [cmpI, h1]), fun h1 => ⟨fun h2 => ret_ok ?_, fun h2 => ret_ok ?_⟩⟩
  · have : ¬ a < b := h1
    simp [cmpI, h1, h2]
  · simp [cmpI, h1, h2]
theorem r_slices_Compare_int (nl1 : Bool) (s : List Int) (tl1 : Tail) (nl2 : Bool) (t : List Int) (tl2 : Tail) (h : AH) :
    RCall Tryz.prog n_slices_Compare_int [.sl nl1 s.length (i64s s) tl1, .sl nl2 t.length (i64s t) tl2] h (I (cmpL s t)) := by
  refine RCall.of hm cF_slices_Compare_int (by simp [g_slices_Compare_int]) fun hw h' hl => ?_
  have hx := wf_len (hw _ (.head _))
  simp only [F_slices_Compare_int, g_slices_Compare_int, go_sem, ↓tq_n, ↓tq_e, ↓tq_r, ↓bq_n, ↓bq_e, ↓bq_r, ↓rq_n, ↓rq_r, ↓rq_e]
  refine awp_loop (fun i : Nat => [(0, .sl nl1 s.length (i64s s) tl1), (1, .sl nl2 t.length (i64s t) tl2), (9, .sl nl1 s.length (i64s s) tl1), (10, I s.length), (11, I i)]) (fun _ => h') (fun i => i ≤ s.length ∧ i ≤ t.length ∧ cmpL s t = cmpL (s.drop i) (t.drop i)) (fun i => s.length - i) 0 ⟨Nat.zero_le _, Nat.zero_le _, rfl⟩ (GStep.forget (by repeat' first | exact EnvLe.nil _ | refine EnvLe.cons (AV.le.of_eq rfl) ?_ | refine EnvLe.cons (AV.le.undef _) ?_ | refine EnvLe.cons AV.le.unk ?_) (by repeat' first | exact AH.le.refl _ | assumption | (refine AH.le_put ?_ (by first | assumption | exact (AH.blk_put_ne _ _ (by assumption)).trans (by assumption) | exact AH.none_put (by assumption) | exact AH.none_put (AH.none_put (by assumption)) | (simp only [AH.blk_setTok, AH.tok_put] at *; first | assumption | exact AH.none_put (by assumption)))) | (refine AH.le_setTok ?_ (by first | assumption | exact (AH.blk_put_ne _ _ (by assumption)).trans (by assumption) | exact AH.none_put (by assumption) | exact AH.none_put (AH.none_put (by assumption)) | (simp only [AH.blk_setTok, AH.tok_put] at *; first | assumption | exact AH.none_put (by assumption)))) | (refine AH.le_putM ?_ (by first | assumption | exact (AH.mp_putM_ne _ _ (by assumption)).trans (by assumption) | (simp only [AH.mp_put, AH.mp_setTok] at *; assumption))))) fun i hi => .of_vg hm ?_
  obtain ⟨h1, h2, h3⟩ := hi
  by_cases h4 : i < s.length
  · have hc : (i : Int) < (s.length : Int) := by omega
    have d1 := getD_drop s 0 h4
    by_cases h5 : i < t.length
    · have hc2 : ¬ (t.length : Int) ≤ (i : Int) := by omega
      have hc3 : (i : Int) < (t.length : Int) := by omega
      have d2 := getD_drop t 0 h5
      simp only [hc, i64s_drop h4, hc2, hc3, i64s_drop h5, F_slices_Compare_int, g_slices_Compare_int, go_sem, ↓tq_n, ↓tq_e, ↓tq_r, ↓bq_n, ↓bq_e, ↓bq_r, ↓rq_n, ↓rq_r, ↓rq_e]
      refine CallG.mk (r_cmp_Compare_int _ _ _) ?_
      rw [d1, d2] at h3
      simp only [cmpL] at h3
      unfold cmpI
      by_cases c1 : s.getD i 0 < t.getD i 0
      · rw [if_pos c1] at h3
        rw [if_pos c1]
        simp only [F_slices_Compare_int, g_slices_Compare_int, go_sem, ↓tq_n, ↓tq_e, ↓tq_r, ↓bq_n, ↓bq_e, ↓bq_r, ↓rq_n, ↓rq_r, ↓rq_e]
        exact ret_ok (by rw [h3])
      · rw [if_neg c1] at h3
        rw [if_neg c1]
        by_cases c2 : t.getD i 0 < s.getD i 0
        · rw [if_pos c2] at h3
          rw [if_pos c2]
          simp only [F_slices_Compare_int, g_slices_Compare_int, go_sem, ↓tq_n, ↓tq_e, ↓tq_r, ↓bq_n, ↓bq_e, ↓bq_r, ↓rq_n, ↓rq_r, ↓rq_e]
          exact ret_ok (by rw [h3])
        · rw [if_neg c2] at h3
          rw [if_neg c2]
          simp only [F_slices_Compare_int, g_slices_Compare_int, go_sem, ↓tq_n, ↓tq_e, ↓tq_r, ↓bq_n, ↓bq_e, ↓bq_r, ↓rq_n, ↓rq_r, ↓rq_e]
          exact ⟨by rw [inR64]; omega, i + 1, ⟨by omega, by omega, h3⟩, by omega, (GStep.forget (by repeat' first | exact EnvLe.nil _ | refine EnvLe.cons (AV.le.of_eq rfl) ?_ | refine EnvLe.cons (AV.le.undef _) ?_ | refine EnvLe.cons AV.le.unk ?_) (by repeat' first | exact AH.le.refl _ | assumption | (refine AH.le_put ?_ (by first | assumption | exact (AH.blk_put_ne _ _ (by assumption)).trans (by assumption) | exact AH.none_put (by assumption) | exact AH.none_put (AH.none_put (by assumption)) | (simp only [AH.blk_setTok, AH.tok_put] at *; first | assumption | exact AH.none_put (by assumption)))) | (refine AH.le_setTok ?_ (by first | assumption | exact (AH.blk_put_ne _ _ (by assumption)).trans (by assumption) | exact AH.none_put (by assumption) | exact AH.none_put (AH.none_put (by assumption)) | (simp only [AH.blk_setTok, AH.tok_put] at *; first | assumption | exact AH.none_put (by assumption)))) | (refine AH.le_putM ?_ (by first | assumption | exact (AH.mp_putM_ne _ _ (by assumption)).trans (by assumption) | (simp only [AH.mp_put, AH.mp_setTok] at *; assumption)))))⟩
    · have h6 : i = t.length := by omega
      have hc2 : (t.length : Int) ≤ (i : Int) := by omega
      simp only [hc, i64s_drop h4, hc2, F_slices_Compare_int, g_slices_Compare_int, go_sem, ↓tq_n, ↓tq_e, ↓tq_r, ↓bq_n, ↓bq_e, ↓bq_r, ↓rq_n, ↓rq_r, ↓rq_e]
      refine ret_ok ?_
      rw [h3, d1, List.drop_of_length_le (l := t) (by omega)]
      rfl
  · have h6 : i = s.length := by omega
    subst h6
    simp only [F_slices_Compare_int, g_slices_Compare_int, go_sem, ↓tq_n, ↓tq_e, ↓tq_r, ↓bq_n, ↓bq_e, ↓bq_r, ↓rq_n, ↓rq_r, ↓rq_e]
    rw [List.drop_of_length_le (l := s) (Nat.le_refl _)] at h3
    refine ⟨fun hlt => ret_ok ?_, fun hge => ret_ok ?_⟩
    · rw [h3, getD_drop t 0 (i := s.length) (by omega)]
      rfl
    · rw [h3, List.drop_of_length_le (l := t) (by omega)]
      rfl

/-- The best set so far. -/
def bA : Option (List Int) → AV
  | none => .sl true 0 [] .full
  | some s => .sl false s.length (i64s s) .unk
/-- The path, a list that is kept in memory. -/
def Pb (H0 : AH) (bs : Nat) (x : AV) (xs : List Int) (h : AH) : Prop :=
  (x = .sl true 0 [] .full ∧ xs = []) ∨ ∃ b q more, x = .msl b 0 xs.length (some q) ∧ b ≠ bs ∧ H0.blk b = none ∧ h.blk b = some (i64s xs ++ more) ∧ xs.length + more.length = q
/-- The state of the search. -/
structure SS (H0 : AH) (bs n : Nat) (A hv x : AV) (xs : List Int) (best : Option (List Int)) (h : AH) : Prop where
  le : H0.le h
  n0 : H0.blk bs = none
  cell : h.blk bs = some [I n, A, hv, x, bA best]
  pb : Pb H0 bs x xs h
variable {H0 h : AH} {bs n : Nat} {A hv x : AV} {xs : List Int} {best : Option (List Int)}
theorem AH.le_putM2 {h h' : AH} {m : Nat} {es : List (AV × AV)} (hl : h.le h') : (h.putM m es).le (h'.putM m es) := by
  refine ⟨hl.blk, hl.tok, fun b c e => ?_⟩
  show (if b = m then _ else _) = _
  have e : (if b = m then some es else h.mp b) = some c := e
  split
  · rename_i hb; rw [if_pos hb] at e; exact e
  · rename_i hb; rw [if_neg hb] at e; exact hl.mp _ _ e
theorem SS.map (k : SS H0 bs n A hv x xs best h) (m : Nat) (es : List (AV × AV)) : SS (H0.putM m es) bs n A hv x xs best (h.putM m es) :=
  ⟨AH.le_putM2 k.le, k.n0, k.cell, k.pb⟩
theorem SS.unmap {m : Nat} {es : List (AV × AV)} (k : SS (H0.putM m es) bs n A hv x xs best h) (hm : H0.mp m = none) : SS H0 bs n A hv x xs best h :=
  ⟨(AH.le_putM (AH.le.refl _) hm).trans k.le, k.n0, k.cell, k.pb⟩
/-- The path grows. -/
theorem SS.step (k : SS H0 bs n A hv x xs best h) (hl : xs.length ≤ 1000) {v : Int} {KS : AV → AH → Prop}
    (hk : ∀ b q h', h'.blk bs = some [I n, A, hv, x, bA best] → SS H0 bs n A hv (.msl b 0 (xs.length + 1) (some q)) (xs ++ [v]) best (h'.put bs [I n, A, hv, .msl b 0 (xs.length + 1) (some q), bA best]) → KS (.msl b 0 (xs.length + 1) (some q)) h') :
    AiS h 1 8 x (.sl false 1 [I v] .full) (c := ⟨KS⟩) := by
  have fin : ∀ b q cells h', b ≠ bs → H0.blk b = none → H0.le h' → h'.blk bs = some [I n, A, hv, x, bA best] → h'.blk b = some cells → (∃ more, cells = i64s (xs ++ [v]) ++ more ∧ xs.length + 1 + more.length = q) → KS (.msl b 0 (xs.length + 1) (some q)) h' := by
    intro b q cells h' h1 h2 h3 h4 h5 ⟨more, h6, h7⟩
    refine hk _ _ _ h4 ⟨AH.le_put h3 k.n0, k.n0, AH.blk_put _ _ _, .inr ⟨b, q, more, by simp, h1, h2, ?_, by simpa using h7⟩⟩
    rw [AH.blk_put_ne _ _ h1, h5, h6]
  rcases k.pb with ⟨rfl, rfl⟩ | ⟨b, q, more, rfl, hne, hn, hb, hq⟩
  · rw [aiS_full, rg_sl]
    refine ⟨rfl, rfl, by omega, by omega, by omega, GrowG.mk fun b q hq hb => ?_⟩
    have hbb : b ≠ bs := fun hh => by subst hh; rw [k.cell] at hb; cases hb
    refine fin b q _ _ hbb (AH.none_of_le k.le hb) (AH.le_put k.le (AH.none_of_le k.le hb)) ((AH.blk_put_ne _ _ (fun hh => hbb hh.symm)).trans k.cell) (AH.blk_put _ _ _) ⟨List.replicate (q - 1) .undef, by simp [i64s], by simp; omega⟩
  · rw [aiS_msl, rg_sl, hb, BlkG_some]
    have hlen : (i64s xs ++ more).length = q := by rw [List.length_append, i64s_len]; omega
    refine ⟨rfl, by omega, by omega, by rw [hlen]; omega, fun h1 => ⟨by rw [hlen]; omega, ?_⟩, fun h1 => GrowG.mk fun b' q' hq' hb' => ?_⟩
    · refine fin b q _ _ hne hn (AH.le_put k.le hn) ((AH.blk_put_ne _ _ (fun hh => hne hh.symm)).trans k.cell) (AH.blk_put _ _ _) ⟨more.drop 1, ?_, by simp; omega⟩
      rw [Nat.zero_add, Nat.mul_one, spl_eq _ _ _ (by rw [hlen]; simp only [List.length_singleton]; omega)]
      have e1 : (i64s xs ++ more).take xs.length = i64s xs := by
        rw [List.take_append_of_le_length (by rw [i64s_len]; exact Nat.le_refl _), List.take_of_length_le (by rw [i64s_len]; exact Nat.le_refl _)]
      have e2 : (i64s xs ++ more).drop (xs.length + 1) = more.drop 1 := by
        rw [List.drop_append, List.drop_of_length_le (by rw [i64s_len]; omega), i64s_len, List.nil_append]
        congr 1
        omega
      simp only [List.length_singleton, e1, e2, i64s_append, i64s_one]
    · have hbb : b' ≠ bs := fun hh => by subst hh; rw [k.cell] at hb'; cases hb'
      have e1 : ((i64s xs ++ more).drop 0).take (xs.length * 1) = i64s xs := by
        rw [List.drop_zero, Nat.mul_one, List.take_append_of_le_length (by rw [i64s_len]; exact Nat.le_refl _), List.take_of_length_le (by rw [i64s_len]; exact Nat.le_refl _)]
      refine fin b' q' _ _ hbb (AH.none_of_le k.le hb') (AH.le_put k.le (AH.none_of_le k.le hb')) ((AH.blk_put_ne _ _ (fun hh => hbb hh.symm)).trans k.cell) (AH.blk_put _ _ _) ⟨List.replicate (q' - (xs.length + 1)) .undef, ?_, by simp; omega⟩
      rw [e1]
      simp [i64s]
/-- The path loses its last piece. -/
theorem SS.cut {v : Int} (k : SS H0 bs n A hv x (xs ++ [v]) best h) : ∃ b q, x = .msl b 0 (xs.length + 1) (some q) ∧ xs.length + 1 ≤ q ∧ SS H0 bs n A hv (.msl b 0 xs.length (some q)) xs best (h.put bs [I n, A, hv, .msl b 0 xs.length (some q), bA best]) := by
  rcases k.pb with ⟨_, e⟩ | ⟨b, q, more, rfl, hne, hn, hb, hq⟩
  · simp at e
  · refine ⟨b, q, by simp, by simp at hq; omega, AH.le_put k.le k.n0, k.n0, AH.blk_put _ _ _, .inr ⟨b, q, I v :: more, rfl, hne, hn, ?_, by simp at hq ⊢; omega⟩⟩
    rw [AH.blk_put_ne _ _ hne, hb, i64s_append, List.append_assoc]
    rfl
/-- A better set is kept. -/
theorem SS.better (k : SS H0 bs n A hv x xs best h) (b' : Option (List Int)) : SS H0 bs n A hv x xs b' (h.put bs [I n, A, hv, x, bA b']) := by
  refine ⟨AH.le_put k.le k.n0, k.n0, AH.blk_put _ _ _, ?_⟩
  rcases k.pb with hp | ⟨b, q, more, rfl, hne, hn, hb, hq⟩
  · exact .inl hp
  · exact .inr ⟨b, q, more, rfl, hne, hn, (AH.blk_put_ne _ _ hne).trans hb, hq⟩
/-- A new table of ways home. -/
theorem SS.home (k : SS H0 bs n A hv x xs best h) {bh : Nat} (hbh : h.blk bh = none) (hv' : AV) (cs : List AV) : SS (H0.put bh cs) bs n A hv' x xs best ((h.put bs [I n, A, hv', x, bA best]).put bh cs) := by
  have hne : bs ≠ bh := fun hh => by subst hh; rw [k.cell] at hbh; cases hbh
  refine ⟨AH.le_put2 (AH.le_put k.le k.n0), (AH.blk_put_ne _ _ hne).trans k.n0, (AH.blk_put_ne _ _ hne).trans (AH.blk_put _ _ _), ?_⟩
  rcases k.pb with hp | ⟨b, q, more, rfl, hne2, hn, hb, hq⟩
  · exact .inl hp
  · have hbb : b ≠ bh := fun hh => by subst hh; rw [hb] at hbh; cases hbh
    exact .inr ⟨b, q, more, rfl, hne2, (AH.blk_put_ne _ _ hbb).trans hn, (AH.blk_put_ne _ _ hbb).trans ((AH.blk_put_ne _ _ hne2).trans hb), hq⟩
theorem SS.unhome {bh : Nat} {cs : List AV} (k : SS (H0.put bh cs) bs n A hv x xs best h) (hn : H0.blk bh = none) : SS H0 bs n A hv x xs best h := by
  have hle := AH.le_put (b := bh) (cs := cs) (AH.le.refl H0) hn
  refine ⟨hle.trans k.le, AH.none_of_le hle k.n0, k.cell, ?_⟩
  rcases k.pb with hp | ⟨b, q, more, rfl, hne2, hn2, hb, hq⟩
  · exact .inl hp
  · exact .inr ⟨b, q, more, rfl, hne2, AH.none_of_le hle hn2, hb, hq⟩
end Go.Proofs.YtidmekdkfiljjaaGreat
namespace Go.Proofs.YtidmekdkfiljjaaGreat
open Go Go.Abs
set_option linter.unusedSimpArgs false
set_option linter.unusedVariables false
set_option maxRecDepth 20000

theorem hmN_le {n : Nat} {a : List (Int × Int)} (he : Ev n a) (v x : Nat) : hmN a v x ≤ n := by
  rcases hmN_spec a v x with ⟨h1, _⟩ | h
  · omega
  · obtain ⟨ks, w1, w2, w3⟩ := h.2.1
    cases ks with
    | nil => simp at w1; have := h.1; omega
    | cons k ks =>
      have hv : v < n := by
        rcases List.eq_nil_or_concat ks with rfl | ⟨l, j, rfl⟩
        · have := w2.2.2; rw [← show tt a k = v from this]; exact (ev_k he w2.1).2.2.1
        · rw [List.concat_eq_append] at w2
          obtain ⟨y, y1, y2⟩ := iw_split w2.2.2
          rw [← show tt a j = v from y2.2.2]; exact (ev_k he y2.1).2.2.1
      obtain ⟨q, q1, q2, q3, q4⟩ := iw_short (fun k hk => (ev_k he hk).2.1) hv w2.2.2
      rcases Nat.lt_or_ge (q.length + 1) (hmN a v x) with h5 | h5
      · refine absurd ⟨k :: q, rfl, ⟨w2.1, w2.2.1, q4⟩, fun j hj => ?_⟩ (h.2.2 (q.length + 1) (by omega) h5)
        rcases List.mem_cons.1 hj with rfl | hj
        · exact w3 j (by simp)
        · exact w3 j (by simp [q3 j hj])
      · omega
theorem tk_fr {a : List (Int × Int)} {v : Nat} {H : Nat → Nat} {at_ left k : Nat} (h : fr a k ≠ at_) : tk a v H at_ left k = false := Bool.eq_false_iff.2 fun hh => h (tk_iff.1 hh).1
theorem tk_lo {a : List (Int × Int)} {v : Nat} {H : Nat → Nat} {at_ left k : Nat} (h : ¬ v ≤ tt a k) : tk a v H at_ left k = false := Bool.eq_false_iff.2 fun hh => h (tk_iff.1 hh).2.1
/-- The ends that were tried. -/
def Trd (a : List (Int × Int)) (v at_ i : Nat) (ts : List Int) : Prop := ∀ y : Int, y ∈ ts ↔ ∃ j, j < i ∧ y = (tt a j : Nat) ∧ fr a j = at_ ∧ v ≤ tt a j
theorem trd_no {a : List (Int × Int)} {v at_ i : Nat} {ts : List Int} (h : Trd a v at_ i ts) (hn : ¬ (fr a i = at_ ∧ v ≤ tt a i ∧ (tt a i : Int) ∉ ts)) : Trd a v at_ (i + 1) ts := fun y => by
  rw [h y]
  constructor
  · rintro ⟨j, h1, h2⟩; exact ⟨j, by omega, h2⟩
  · rintro ⟨j, h1, h2, h3, h4⟩
    rcases lt_succ_cases h1 with h5 | rfl
    · exact ⟨j, h5, h2, h3, h4⟩
    · have : (tt a j : Int) ∈ ts := Classical.byContradiction fun hh => hn ⟨h3, h4, hh⟩
      rw [h2]
      exact (h _).1 this
theorem trd_yes {a : List (Int × Int)} {v at_ i : Nat} {ts : List Int} (h : Trd a v at_ i ts) (h1 : fr a i = at_) (h2 : v ≤ tt a i) : Trd a v at_ (i + 1) (ts ++ [(tt a i : Int)]) := fun y => by
  rw [List.mem_append, List.mem_singleton, h y]
  constructor
  · rintro (⟨j, h3, h4⟩ | rfl)
    · exact ⟨j, by omega, h4⟩
    · exact ⟨i, by omega, rfl, h1, h2⟩
  · rintro ⟨j, h3, h4, h5, h6⟩
    rcases lt_succ_cases h3 with h7 | rfl
    · exact .inl ⟨j, h7, h4, h5, h6⟩
    · exact .inr h4
theorem tk_in {a : List (Int × Int)} {v : Nat} {H : Nat → Nat} {at_ left k : Nat} {ts : List Int} (h : Trd a v at_ k ts) (hi : (tt a k : Int) ∈ ts) : tk a v H at_ left k = false := Bool.eq_false_iff.2 fun hh => by
  obtain ⟨j, h1, h2, h3, _⟩ := (h _).1 hi
  exact (tk_iff.1 hh).2.2.1 j h1 ⟨h3, by omega⟩
theorem tk_new {a : List (Int × Int)} {v : Nat} {H : Nat → Nat} {at_ left k : Nat} {ts : List Int} (h : Trd a v at_ k ts) (h1 : fr a k = at_) (h2 : v ≤ tt a k) (hi : (tt a k : Int) ∉ ts) (h3 : left = 1 → tt a k = v) (h4 : left ≠ 1 → tt a k ≠ v ∧ H (tt a k) = left - 1) : tk a v H at_ left k = true :=
  tk_iff.2 ⟨h1, h2, fun j hj ⟨e1, e2⟩ => hi ((h _).2 ⟨j, hj, by rw [e2], e1, by rw [e2]; exact h2⟩), h3, h4⟩

set_option maxHeartbeats 4000000 in
theorem s_extend (n : Nat) (n1 : Bool) (a : List (Int × Int)) (u1 : Tail) (he : Ev n a) (v : Nat) (hv : v < n) (bs bh : Nat) : ∀ (left at_ : Nat) (path : List Int) (best : Option (List Int)) (x : AV) (h H0 : AH), at_ < n → path.length + left ≤ 100 → 0 < path.length + left → (∀ y ∈ path, 0 ≤ y ∧ y < 1000) → H0.blk bh = some (i64s (hmL n a v)) →
    SS H0 bs n (.sl n1 a.length (prs a) u1) (.msl bh 0 n (some n)) x path best h →
    ACalls Tryz.prog n_contradiction_search_extend [.ptr bs 0, I at_, I v, I (left : Nat)] h (fun r h'' => r = .tup [] ∧ ∃ x', SS H0 bs n (.sl n1 a.length (prs a) u1) (.msl bh 0 n (some n)) x' path (extF a v (hmN a v) left at_ path best) h'') := by
  intro left
  have hn : n ≤ 24 := by have := he.2.1; omega
  have ha := he.2.2.1
  induction left with
  | zero =>
    intro at_ path best x h H0 hat hl hpos hpe hhm k
    refine ACalls.of hm cF_contradiction_search_extend (by simp [g_contradiction_search_extend]) fun hw => ?_
    rcases k.pb with ⟨_, e⟩ | ⟨b, q, more, rfl, hne, hnb, hb, hq⟩
    · subst e; simp at hpos
    have hcell := k.cell
    have hsl := srt_len path
    have fin := k.better (upd best (srt path))
    have hz : ((0 : Nat) : Int) = 0 := by omega
    simp only [hcell, hz, F_contradiction_search_extend, g_contradiction_search_extend, go_sem, ↓tq_n, ↓tq_e, ↓tq_r, ↓bq_n, ↓bq_e, ↓bq_r, ↓rq_n, ↓rq_r, ↓rq_e]
    refine CallG.mk (r_slices_ValuesM b path.length q _) ?_
    simp only [F_contradiction_search_extend, g_contradiction_search_extend, go_sem, ↓tq_n, ↓tq_e, ↓tq_r, ↓bq_n, ↓bq_e, ↓bq_r, ↓rq_n, ↓rq_r, ↓rq_e]
    refine CallG.mk (r_slices_SortedM path b q more (fun y hy => by have := hpe y hy; rw [inR64]; omega) (by omega) (by omega) _ hb) ?_
    cases best with
    | none =>
      simp only [hcell, bA, F_contradiction_search_extend, g_contradiction_search_extend, go_sem, ↓tq_n, ↓tq_e, ↓tq_r, ↓bq_n, ↓bq_e, ↓bq_r, ↓rq_n, ↓rq_r, ↓rq_e]
      exact ⟨_, _, RGh.refl _ _, rfl, _, fin⟩
    | some t =>
      have hbA : bA (upd (some t) (srt path)) = if (srt path).length < t.length ∨ ((srt path).length = t.length ∧ cmpL (srt path) t < 0) then bA (some (srt path)) else bA (some t) := by
        unfold upd
        simp only
        split <;> rfl
      rw [hbA] at fin
      have same : h = h.put bs [I n, .sl n1 a.length (prs a) u1, .msl bh 0 n (some n), .msl b 0 path.length (some q), bA (some t)] := (AH.put_same hcell).symm
      by_cases c1 : (srt path).length < t.length
      · have c1' : ((srt path).length : Int) < (t.length : Int) := by omega
        rw [if_pos (.inl c1)] at fin
        simp only [hcell, bA, c1', F_contradiction_search_extend, g_contradiction_search_extend, go_sem, ↓tq_n, ↓tq_e, ↓tq_r, ↓bq_n, ↓bq_e, ↓bq_r, ↓rq_n, ↓rq_r, ↓rq_e]
        exact ⟨_, _, RGh.refl _ _, rfl, _, fin⟩
      have c1' : ¬ ((srt path).length : Int) < (t.length : Int) := by omega
      by_cases c2 : (srt path).length = t.length
      case neg =>
        have c2' : ¬ ((srt path).length : Int) = (t.length : Int) := by omega
        rw [if_neg (fun hh => by rcases hh with hh | ⟨hh, _⟩; exact c1 hh; exact c2 hh), ← same] at fin
        simp only [hcell, bA, c1', c2', F_contradiction_search_extend, g_contradiction_search_extend, go_sem, ↓tq_n, ↓tq_e, ↓tq_r, ↓bq_n, ↓bq_e, ↓bq_r, ↓rq_n, ↓rq_r, ↓rq_e]
        exact ⟨_, _, RGh.refl _ _, rfl, _, fin⟩
      have c2' : ((srt path).length : Int) = (t.length : Int) := by omega
      have c0' : ¬ (t.length : Int) < (t.length : Int) := by omega
      simp only [hcell, bA, c1', c2', c0', F_contradiction_search_extend, g_contradiction_search_extend, go_sem, ↓tq_n, ↓tq_e, ↓tq_r, ↓bq_n, ↓bq_e, ↓bq_r, ↓rq_n, ↓rq_r, ↓rq_e]
      have hcp := r_slices_Compare_int false (srt path) .unk false t .unk h
      rw [c2] at hcp
      rw [c2]
      refine CallG.mk hcp ?_
      by_cases c3 : cmpL (srt path) t < 0
      · rw [if_pos (.inr ⟨c2, c3⟩)] at fin
        simp only [bA, c2] at fin
        simp only [hcell, bA, c3, F_contradiction_search_extend, g_contradiction_search_extend, go_sem, ↓tq_n, ↓tq_e, ↓tq_r, ↓bq_n, ↓bq_e, ↓bq_r, ↓rq_n, ↓rq_r, ↓rq_e]
        exact ⟨_, _, RGh.refl _ _, rfl, _, fin⟩
      · rw [if_neg (fun hh => by rcases hh with hh | ⟨_, hh⟩; exact c1 hh; exact c3 hh), ← same] at fin
        simp only [hcell, bA, c3, F_contradiction_search_extend, g_contradiction_search_extend, go_sem, ↓tq_n, ↓tq_e, ↓tq_r, ↓bq_n, ↓bq_e, ↓bq_r, ↓rq_n, ↓rq_r, ↓rq_e]
        exact ⟨_, _, RGh.refl _ _, rfl, _, fin⟩
  | succ left ih =>
    intro at_ path best x h H0 hat hl hpos hpe hhm k
    refine ACalls.of hm cF_contradiction_search_extend (by simp [g_contradiction_search_extend]) fun hw => ?_
    have hcell := k.cell
    have c0 : ¬ ((left + 1 : Nat) : Int) = 0 := by omega
    simp only [c0, F_contradiction_search_extend, g_contradiction_search_extend, go_sem, ↓tq_n, ↓tq_e, ↓tq_r, ↓bq_n, ↓bq_e, ↓bq_r, ↓rq_n, ↓rq_r, ↓rq_e]
    refine NewMG.mk fun m hmm => ?_
    have hm0 : H0.mp m = none := AH.mnone_of_le k.le hmm
    simp only [hcell, F_contradiction_search_extend, g_contradiction_search_extend, go_sem, ↓tq_n, ↓tq_e, ↓tq_r, ↓bq_n, ↓bq_e, ↓bq_r, ↓rq_n, ↓rq_r, ↓rq_e]
    refine awp_loop (α := Nat × List Int × AH) (fun y => [(0, .ptr bs 0), (1, I at_), (2, I v), (3, I ((left + 1 : Nat) : Int)), (9, .map m), (62, .sl n1 a.length (prs a) u1), (63, I a.length), (64, I y.1)]) (fun y => y.2.2)
      (fun y => y.1 ≤ a.length ∧ Trd a v at_ y.1 y.2.1 ∧ ∃ x, SS (H0.putM m (keys y.2.1)) bs n (.sl n1 a.length (prs a) u1) (.msl bh 0 n (some n)) x path (extK a v (hmN a v) left at_ path best y.1) y.2.2) (fun y => a.length - y.1) (0, [], h.putM m [])
      ⟨Nat.zero_le _, (fun y => ⟨fun hh => by simp at hh, fun ⟨j, hj, _⟩ => absurd hj (Nat.not_lt_zero _)⟩), x, k.map m []⟩ (GStep.forget (by repeat' first | exact EnvLe.nil _ | refine EnvLe.cons (AV.le.of_eq rfl) ?_ | refine EnvLe.cons (AV.le.undef _) ?_ | refine EnvLe.cons AV.le.unk ?_) (by repeat' first | exact AH.le.refl _ | assumption | (refine AH.le_put ?_ (by first | assumption | exact (AH.blk_put_ne _ _ (by assumption)).trans (by assumption) | exact AH.none_put (by assumption) | exact AH.none_put (AH.none_put (by assumption)) | (simp only [AH.blk_setTok, AH.tok_put] at *; first | assumption | exact AH.none_put (by assumption)))) | (refine AH.le_setTok ?_ (by first | assumption | exact (AH.blk_put_ne _ _ (by assumption)).trans (by assumption) | exact AH.none_put (by assumption) | exact AH.none_put (AH.none_put (by assumption)) | (simp only [AH.blk_setTok, AH.tok_put] at *; first | assumption | exact AH.none_put (by assumption)))) | (refine AH.le_putM ?_ (by first | assumption | exact (AH.mp_putM_ne _ _ (by assumption)).trans (by assumption) | (simp only [AH.mp_put, AH.mp_setTok] at *; assumption))))) fun y hy => .of_vg hm ?_
    obtain ⟨i, ts, g⟩ := y
    obtain ⟨h1, h2, x, k⟩ := hy
    simp only at h1 h2 k ⊢
    by_cases h8 : i < a.length
    case neg =>
      have h8 : i = a.length := by omega
      subst h8
      simp only [F_contradiction_search_extend, g_contradiction_search_extend, go_sem, ↓tq_n, ↓tq_e, ↓tq_r, ↓bq_n, ↓bq_e, ↓bq_r, ↓rq_n, ↓rq_r, ↓rq_e]
      exact ⟨_, _, RGh.refl _ _, rfl, x, k.unmap hm0⟩
    have hcj : (i : Int) < (a.length : Int) := by omega
    obtain ⟨e1, e2, e3, e4⟩ := ev_k he h8
    have hcell := k.cell
    have hmp : g.mp m = some (keys ts) := k.le.mp _ _ (AH.mp_putM _ _ _)
    have hbh : g.blk bh = some (i64s (hmL n a v)) := k.le.blk _ _ hhm
    have hsucc := extK_succ a v (hmN a v) left at_ path best i
    by_cases c1 : fr a i = at_
    case neg =>
      have c1' : ¬ (fr a i : Int) = (at_ : Int) := by omega
      rw [if_neg (by rw [tk_fr c1]; decide)] at hsucc
      simp only [hcj, prs_drop h8, e1, c1', F_contradiction_search_extend, g_contradiction_search_extend, go_sem, ↓tq_n, ↓tq_e, ↓tq_r, ↓bq_n, ↓bq_e, ↓bq_r, ↓rq_n, ↓rq_r, ↓rq_e]
      exact ⟨by rw [inR64]; omega, (i + 1, ts, g), ⟨by simp only; omega, trd_no h2 (fun hh => c1 hh.1), x, by rw [hsucc]; exact k⟩, by simp only; omega, (GStep.forget (by repeat' first | exact EnvLe.nil _ | refine EnvLe.cons (AV.le.of_eq rfl) ?_ | refine EnvLe.cons (AV.le.undef _) ?_ | refine EnvLe.cons AV.le.unk ?_) (by repeat' first | exact AH.le.refl _ | assumption | (refine AH.le_put ?_ (by first | assumption | exact (AH.blk_put_ne _ _ (by assumption)).trans (by assumption) | exact AH.none_put (by assumption) | exact AH.none_put (AH.none_put (by assumption)) | (simp only [AH.blk_setTok, AH.tok_put] at *; first | assumption | exact AH.none_put (by assumption)))) | (refine AH.le_setTok ?_ (by first | assumption | exact (AH.blk_put_ne _ _ (by assumption)).trans (by assumption) | exact AH.none_put (by assumption) | exact AH.none_put (AH.none_put (by assumption)) | (simp only [AH.blk_setTok, AH.tok_put] at *; first | assumption | exact AH.none_put (by assumption)))) | (refine AH.le_putM ?_ (by first | assumption | exact (AH.mp_putM_ne _ _ (by assumption)).trans (by assumption) | (simp only [AH.mp_put, AH.mp_setTok] at *; assumption)))))⟩
    by_cases c2 : v ≤ tt a i
    case neg =>
      have c1' : (fr a i : Int) = (at_ : Int) := by omega
      have c2' : (tt a i : Int) < (v : Int) := by omega
      rw [if_neg (by rw [tk_lo c2]; decide)] at hsucc
      simp only [hcj, prs_drop h8, e1, c1', c2', F_contradiction_search_extend, g_contradiction_search_extend, go_sem, ↓tq_n, ↓tq_e, ↓tq_r, ↓bq_n, ↓bq_e, ↓bq_r, ↓rq_n, ↓rq_r, ↓rq_e]
      exact ⟨by rw [inR64]; omega, (i + 1, ts, g), ⟨by simp only; omega, trd_no h2 (fun hh => c2 hh.2.1), x, by rw [hsucc]; exact k⟩, by simp only; omega, (GStep.forget (by repeat' first | exact EnvLe.nil _ | refine EnvLe.cons (AV.le.of_eq rfl) ?_ | refine EnvLe.cons (AV.le.undef _) ?_ | refine EnvLe.cons AV.le.unk ?_) (by repeat' first | exact AH.le.refl _ | assumption | (refine AH.le_put ?_ (by first | assumption | exact (AH.blk_put_ne _ _ (by assumption)).trans (by assumption) | exact AH.none_put (by assumption) | exact AH.none_put (AH.none_put (by assumption)) | (simp only [AH.blk_setTok, AH.tok_put] at *; first | assumption | exact AH.none_put (by assumption)))) | (refine AH.le_setTok ?_ (by first | assumption | exact (AH.blk_put_ne _ _ (by assumption)).trans (by assumption) | exact AH.none_put (by assumption) | exact AH.none_put (AH.none_put (by assumption)) | (simp only [AH.blk_setTok, AH.tok_put] at *; first | assumption | exact AH.none_put (by assumption)))) | (refine AH.le_putM ?_ (by first | assumption | exact (AH.mp_putM_ne _ _ (by assumption)).trans (by assumption) | (simp only [AH.mp_put, AH.mp_setTok] at *; assumption)))))⟩
    have c1' : (fr a i : Int) = (at_ : Int) := by omega
    have c2' : ¬ (tt a i : Int) < (v : Int) := by omega
    by_cases c3 : (tt a i : Int) ∈ ts
    · rw [if_neg (by rw [tk_in h2 c3]; decide)] at hsucc
      have hfk := find_keys (tt a i) ts
      rw [if_pos c3] at hfk
      simp only [hcj, prs_drop h8, e1, c1', c2', hmp, hfk, Option.getD_some, F_contradiction_search_extend, g_contradiction_search_extend, go_sem, ↓tq_n, ↓tq_e, ↓tq_r, ↓bq_n, ↓bq_e, ↓bq_r, ↓rq_n, ↓rq_r, ↓rq_e]
      exact ⟨by rw [inR64]; omega, (i + 1, ts, g), ⟨by simp only; omega, trd_no h2 (fun hh => hh.2.2 c3), x, by rw [hsucc]; exact k⟩, by simp only; omega, (GStep.forget (by repeat' first | exact EnvLe.nil _ | refine EnvLe.cons (AV.le.of_eq rfl) ?_ | refine EnvLe.cons (AV.le.undef _) ?_ | refine EnvLe.cons AV.le.unk ?_) (by repeat' first | exact AH.le.refl _ | assumption | (refine AH.le_put ?_ (by first | assumption | exact (AH.blk_put_ne _ _ (by assumption)).trans (by assumption) | exact AH.none_put (by assumption) | exact AH.none_put (AH.none_put (by assumption)) | (simp only [AH.blk_setTok, AH.tok_put] at *; first | assumption | exact AH.none_put (by assumption)))) | (refine AH.le_setTok ?_ (by first | assumption | exact (AH.blk_put_ne _ _ (by assumption)).trans (by assumption) | exact AH.none_put (by assumption) | exact AH.none_put (AH.none_put (by assumption)) | (simp only [AH.blk_setTok, AH.tok_put] at *; first | assumption | exact AH.none_put (by assumption)))) | (refine AH.le_putM ?_ (by first | assumption | exact (AH.mp_putM_ne _ _ (by assumption)).trans (by assumption) | (simp only [AH.mp_put, AH.mp_setTok] at *; assumption)))))⟩
    have hfk := find_keys (tt a i) ts
    rw [if_neg c3] at hfk
    have huk := upd_keys (k := (tt a i : Int)) (l := ts) c3
    have hty := trd_yes h2 c1 c2
    have k2 : SS (H0.putM m (keys (ts ++ [(tt a i : Int)]))) bs n (.sl n1 a.length (prs a) u1) (.msl bh 0 n (some n)) x path (extK a v (hmN a v) left at_ path best i) (g.putM m (keys (ts ++ [(tt a i : Int)]))) := by
      have := k.map m (keys (ts ++ [(tt a i : Int)]))
      rwa [AH.putM_putM] at this
    have hto : tt a i < (hmL n a v).length := by rw [hmL_len]; exact e3
    have hg1 := hmL_get (n := n) (a := a) (v := v) e3
    have ht0 : (0 : Int) ≤ (tt a i : Int) := by omega
    have htn : (tt a i : Int) < (n : Int) := by omega
    have hsub : ((left + 1 : Nat) : Int) - 1 = (left : Int) := by omega
    have hsub0 : ((path.length + 1 : Nat) : Int) - 1 = (path.length : Int) := by omega
    by_cases htk : tk a v (hmN a v) at_ (left + 1) i = true
    case neg =>
      rw [if_neg htk] at hsucc
      have fin : ∃ x, SS (H0.putM m (keys (ts ++ [(tt a i : Int)]))) bs n (.sl n1 a.length (prs a) u1) (.msl bh 0 n (some n)) x path (extK a v (hmN a v) left at_ path best (i + 1)) (g.putM m (keys (ts ++ [(tt a i : Int)]))) := ⟨x, by rw [hsucc]; exact k2⟩
      by_cases c4 : left = 0
      · have c4' : ((left + 1 : Nat) : Int) = 1 := by omega
        by_cases c5 : tt a i = v
        · exact absurd (tk_new h2 c1 c2 c3 (fun _ => c5) (fun hh => absurd (by omega) hh)) htk
        · have c5' : ¬ (tt a i : Int) = (v : Int) := by omega
          simp only [hcj, prs_drop h8, e1, c1', c2', hmp, hfk, Option.getD_none, huk, c4', c5', F_contradiction_search_extend, g_contradiction_search_extend, go_sem, ↓tq_n, ↓tq_e, ↓tq_r, ↓bq_n, ↓bq_e, ↓bq_r, ↓rq_n, ↓rq_r, ↓rq_e]
          exact ⟨by rw [inR64]; omega, (i + 1, ts ++ [(tt a i : Int)], g.putM m (keys (ts ++ [(tt a i : Int)]))), ⟨by simp only; omega, hty, fin⟩, by simp only; omega, (GStep.forget (by repeat' first | exact EnvLe.nil _ | refine EnvLe.cons (AV.le.of_eq rfl) ?_ | refine EnvLe.cons (AV.le.undef _) ?_ | refine EnvLe.cons AV.le.unk ?_) (by repeat' first | exact AH.le.refl _ | assumption | (refine AH.le_put ?_ (by first | assumption | exact (AH.blk_put_ne _ _ (by assumption)).trans (by assumption) | exact AH.none_put (by assumption) | exact AH.none_put (AH.none_put (by assumption)) | (simp only [AH.blk_setTok, AH.tok_put] at *; first | assumption | exact AH.none_put (by assumption)))) | (refine AH.le_setTok ?_ (by first | assumption | exact (AH.blk_put_ne _ _ (by assumption)).trans (by assumption) | exact AH.none_put (by assumption) | exact AH.none_put (AH.none_put (by assumption)) | (simp only [AH.blk_setTok, AH.tok_put] at *; first | assumption | exact AH.none_put (by assumption)))) | (refine AH.le_putM ?_ (by first | assumption | exact (AH.mp_putM_ne _ _ (by assumption)).trans (by assumption) | (simp only [AH.mp_put, AH.mp_setTok] at *; assumption)))))⟩
      · have c4' : ¬ ((left + 1 : Nat) : Int) = 1 := by omega
        have c4'' : (1 : Int) < ((left + 1 : Nat) : Int) := by omega
        by_cases c5 : tt a i = v
        · have c5' : (tt a i : Int) = (v : Int) := by omega
          simp only [hcj, prs_drop h8, e1, c1', c2', hmp, hfk, Option.getD_none, huk, c4', c4'', decide_eq_true c5', F_contradiction_search_extend, g_contradiction_search_extend, go_sem, ↓tq_n, ↓tq_e, ↓tq_r, ↓bq_n, ↓bq_e, ↓bq_r, ↓rq_n, ↓rq_r, ↓rq_e]
          exact ⟨by rw [inR64]; omega, (i + 1, ts ++ [(tt a i : Int)], g.putM m (keys (ts ++ [(tt a i : Int)]))), ⟨by simp only; omega, hty, fin⟩, by simp only; omega, (GStep.forget (by repeat' first | exact EnvLe.nil _ | refine EnvLe.cons (AV.le.of_eq rfl) ?_ | refine EnvLe.cons (AV.le.undef _) ?_ | refine EnvLe.cons AV.le.unk ?_) (by repeat' first | exact AH.le.refl _ | assumption | (refine AH.le_put ?_ (by first | assumption | exact (AH.blk_put_ne _ _ (by assumption)).trans (by assumption) | exact AH.none_put (by assumption) | exact AH.none_put (AH.none_put (by assumption)) | (simp only [AH.blk_setTok, AH.tok_put] at *; first | assumption | exact AH.none_put (by assumption)))) | (refine AH.le_setTok ?_ (by first | assumption | exact (AH.blk_put_ne _ _ (by assumption)).trans (by assumption) | exact AH.none_put (by assumption) | exact AH.none_put (AH.none_put (by assumption)) | (simp only [AH.blk_setTok, AH.tok_put] at *; first | assumption | exact AH.none_put (by assumption)))) | (refine AH.le_putM ?_ (by first | assumption | exact (AH.mp_putM_ne _ _ (by assumption)).trans (by assumption) | (simp only [AH.mp_put, AH.mp_setTok] at *; assumption)))))⟩
        · have c5' : ¬ (tt a i : Int) = (v : Int) := by omega
          have c6 : ¬ (hmN a v (tt a i) : Int) = (left : Int) := fun hh => htk (tk_new h2 c1 c2 c3 (fun hl => absurd hl (by omega)) (fun _ => ⟨c5, by omega⟩))
          simp only [hcj, prs_drop h8, e1, c1', c2', hmp, hfk, Option.getD_none, huk, c4', c4'', c5', hcell, AH.blk_putM, hbh, ht0, htn, i64s_drop hto, hg1, hsub, c6, F_contradiction_search_extend, g_contradiction_search_extend, go_sem, ↓tq_n, ↓tq_e, ↓tq_r, ↓bq_n, ↓bq_e, ↓bq_r, ↓rq_n, ↓rq_r, ↓rq_e]
          exact ⟨by rw [inR64]; omega, by rw [inR64]; omega, (i + 1, ts ++ [(tt a i : Int)], g.putM m (keys (ts ++ [(tt a i : Int)]))), ⟨by simp only; omega, hty, fin⟩, by simp only; omega, (GStep.forget (by repeat' first | exact EnvLe.nil _ | refine EnvLe.cons (AV.le.of_eq rfl) ?_ | refine EnvLe.cons (AV.le.undef _) ?_ | refine EnvLe.cons AV.le.unk ?_) (by repeat' first | exact AH.le.refl _ | assumption | (refine AH.le_put ?_ (by first | assumption | exact (AH.blk_put_ne _ _ (by assumption)).trans (by assumption) | exact AH.none_put (by assumption) | exact AH.none_put (AH.none_put (by assumption)) | (simp only [AH.blk_setTok, AH.tok_put] at *; first | assumption | exact AH.none_put (by assumption)))) | (refine AH.le_setTok ?_ (by first | assumption | exact (AH.blk_put_ne _ _ (by assumption)).trans (by assumption) | exact AH.none_put (by assumption) | exact AH.none_put (AH.none_put (by assumption)) | (simp only [AH.blk_setTok, AH.tok_put] at *; first | assumption | exact AH.none_put (by assumption)))) | (refine AH.le_putM ?_ (by first | assumption | exact (AH.mp_putM_ne _ _ (by assumption)).trans (by assumption) | (simp only [AH.mp_put, AH.mp_setTok] at *; assumption)))))⟩
    rw [if_pos htk] at hsucc
    obtain ⟨_, _, _, t4, t5⟩ := tk_iff.1 htk
    have hcase : (((left + 1 : Nat) : Int) = 1 ∧ (tt a i : Int) = (v : Int)) ∨ (¬ ((left + 1 : Nat) : Int) = 1 ∧ (1 : Int) < ((left + 1 : Nat) : Int) ∧ ¬ (tt a i : Int) = (v : Int) ∧ (hmN a v (tt a i) : Int) = (left : Int)) := by
      by_cases c4 : left = 0
      · have := t4 (by omega); exact .inl ⟨by omega, by omega⟩
      · have := t5 (by omega); exact .inr ⟨by omega, by omega, by omega, by omega⟩
    rcases hcase with ⟨c4', c5'⟩ | ⟨c4', c4'', c5', c6⟩
    case' inl =>
      have c7 : ¬ (1 : Int) < ((left + 1 : Nat) : Int) := by omega
      simp only [c7, hcj, prs_drop h8, e1, c1', c2', hmp, hfk, Option.getD_none, huk, decide_eq_true c4', decide_eq_true c5', hcell, AH.blk_putM, F_contradiction_search_extend, g_contradiction_search_extend, go_sem, ↓tq_n, ↓tq_e, ↓tq_r, ↓bq_n, ↓bq_e, ↓bq_r, ↓rq_n, ↓rq_r, ↓rq_e]
    case' inr =>
      simp only [hcj, prs_drop h8, e1, c1', c2', hmp, hfk, Option.getD_none, huk, c4', c4'', c5', hcell, AH.blk_putM, hbh, ht0, htn, i64s_drop hto, hg1, hsub, c6, F_contradiction_search_extend, g_contradiction_search_extend, go_sem, ↓tq_n, ↓tq_e, ↓tq_r, ↓bq_n, ↓bq_e, ↓bq_r, ↓rq_n, ↓rq_r, ↓rq_e]
      refine ⟨by rw [inR64]; omega, ?_⟩
    all_goals
      refine k2.step (by omega) fun b q h' hc1 hs => ?_
      simp only [hc1, F_contradiction_search_extend, g_contradiction_search_extend, go_sem, ↓tq_n, ↓tq_e, ↓tq_r, ↓bq_n, ↓bq_e, ↓bq_r, ↓rq_n, ↓rq_r, ↓rq_e]
      have hs2 := ih (tt a i) (path ++ [(i : Int)]) (extK a v (hmN a v) left at_ path best i) _ _ _ e3 (by simp; omega) (by simp; omega) (fun y hy => by
        rw [List.mem_append, List.mem_singleton] at hy
        rcases hy with hy | rfl
        · exact hpe y hy
        · omega) (by exact hhm) hs
      rw [hsub]
      refine ⟨by rw [inR64]; omega, CallS.mk hs2 fun r h'' hr => ?_⟩
      obtain ⟨rfl, x', hs3⟩ := hr
      obtain ⟨b2, q2, rfl, hq2, hs4⟩ := hs3.cut
      simp only [hs3.cell, hsub0, mslCut_zero, Option.getD_some, Nat.zero_mul, Nat.mul_one, Nat.sub_zero, F_contradiction_search_extend, g_contradiction_search_extend, go_sem, ↓tq_n, ↓tq_e, ↓tq_r, ↓bq_n, ↓bq_e, ↓bq_r, ↓rq_n, ↓rq_r, ↓rq_e]
      refine ⟨by rw [inR64]; omega, by omega, Nat.zero_le _, by rw [inR64]; omega, (i + 1, ts ++ [(tt a i : Int)], h''.put bs [I n, .sl n1 a.length (prs a) u1, .msl bh 0 n (some n), .msl b2 0 path.length (some q2), bA (extF a v (hmN a v) left (tt a i) (path ++ [(i : Int)]) (extK a v (hmN a v) left at_ path best i))]), ⟨by simp only; omega, hty, _, by rw [hsucc]; exact hs4⟩, by simp only; omega, (GStep.forget (by repeat' first | exact EnvLe.nil _ | refine EnvLe.cons (AV.le.of_eq rfl) ?_ | refine EnvLe.cons (AV.le.undef _) ?_ | refine EnvLe.cons AV.le.unk ?_) (by repeat' first | exact AH.le.refl _ | assumption | (refine AH.le_put ?_ (by first | assumption | exact (AH.blk_put_ne _ _ (by assumption)).trans (by assumption) | exact AH.none_put (by assumption) | exact AH.none_put (AH.none_put (by assumption)) | (simp only [AH.blk_setTok, AH.tok_put] at *; first | assumption | exact AH.none_put (by assumption)))) | (refine AH.le_setTok ?_ (by first | assumption | exact (AH.blk_put_ne _ _ (by assumption)).trans (by assumption) | exact AH.none_put (by assumption) | exact AH.none_put (AH.none_put (by assumption)) | (simp only [AH.blk_setTok, AH.tok_put] at *; first | assumption | exact AH.none_put (by assumption)))) | (refine AH.le_putM ?_ (by first | assumption | exact (AH.mp_putM_ne _ _ (by assumption)).trans (by assumption) | (simp only [AH.mp_put, AH.mp_setTok] at *; assumption)))))⟩

theorem r_contradiction_Smallest (n : Int) (n1 : Bool) (a : List (Int × Int)) (u1 : Tail) (h : AH) : RCall Tryz.prog n_contradiction_Smallest [I n, .sl n1 a.length (prs a) u1] h (smV n a) := by
  refine RCall.of hm cF_contradiction_Smallest (by simp [g_contradiction_Smallest]) fun hw h' hl => ?_
  simp only [F_contradiction_Smallest, g_contradiction_Smallest, go_sem, ↓tq_n, ↓tq_e, ↓tq_r, ↓bq_n, ↓bq_e, ↓bq_r, ↓rq_n, ↓rq_r, ↓rq_e]
  refine CallG.mk (r_contradiction_Valid n n1 a u1 _) ?_
  by_cases he : Ev n a
  case neg =>
    rw [decide_eq_false he]
    simp only [F_contradiction_Smallest, g_contradiction_Smallest, go_sem, ↓tq_n, ↓tq_e, ↓tq_r, ↓bq_n, ↓bq_e, ↓bq_r, ↓rq_n, ↓rq_r, ↓rq_e]
    exact ret_ok (by simp [smV, he])
  rw [decide_eq_true he]
  obtain ⟨m, rfl⟩ := ev_nat he
  have ha := he.2.2.1
  have hn : m ≤ 24 := by have := he.2.1; omega
  simp only [F_contradiction_Smallest, g_contradiction_Smallest, go_sem, ↓tq_n, ↓tq_e, ↓tq_r, ↓bq_n, ↓bq_e, ↓bq_r, ↓rq_n, ↓rq_r, ↓rq_e]
  refine AllocG.mk fun bs hbs => ?_
  simp only [F_contradiction_Smallest, g_contradiction_Smallest, go_sem, ↓tq_n, ↓tq_e, ↓tq_r, ↓bq_n, ↓bq_e, ↓bq_r, ↓rq_n, ↓rq_r, ↓rq_e]
  refine awp_loop (α := Nat × AH) (fun y => [(0, I m), (1, .sl n1 a.length (prs a) u1), (6, .ptr bs 0), (17, I m), (18, I y.1)]) (fun y => y.2) (fun y => y.1 ≤ m ∧ ∃ hv x, SS h' bs m (.sl n1 a.length (prs a) u1) hv x [] (smF a y.1) y.2) (fun y => m - y.1) (0, h'.put bs [I m, .sl n1 a.length (prs a) u1, .sl true 0 [] .full, .sl true 0 [] .full, .sl true 0 [] .full])
    ⟨Nat.zero_le _, _, _, AH.le_put (.refl _) hbs, hbs, AH.blk_put _ _ _, .inl ⟨rfl, rfl⟩⟩ (GStep.forget (by repeat' first | exact EnvLe.nil _ | refine EnvLe.cons (AV.le.of_eq rfl) ?_ | refine EnvLe.cons (AV.le.undef _) ?_ | refine EnvLe.cons AV.le.unk ?_) (by repeat' first | exact AH.le.refl _ | assumption | (refine AH.le_put ?_ (by first | assumption | exact (AH.blk_put_ne _ _ (by assumption)).trans (by assumption) | exact AH.none_put (by assumption) | exact AH.none_put (AH.none_put (by assumption)) | (simp only [AH.blk_setTok, AH.tok_put] at *; first | assumption | exact AH.none_put (by assumption)))) | (refine AH.le_setTok ?_ (by first | assumption | exact (AH.blk_put_ne _ _ (by assumption)).trans (by assumption) | exact AH.none_put (by assumption) | exact AH.none_put (AH.none_put (by assumption)) | (simp only [AH.blk_setTok, AH.tok_put] at *; first | assumption | exact AH.none_put (by assumption)))) | (refine AH.le_putM ?_ (by first | assumption | exact (AH.mp_putM_ne _ _ (by assumption)).trans (by assumption) | (simp only [AH.mp_put, AH.mp_setTok] at *; assumption))))) fun y hy => .of_vg hm ?_
  obtain ⟨i, g⟩ := y
  obtain ⟨h1, hv, x, k⟩ := hy
  simp only at h1 k ⊢
  by_cases h2 : i < m
  case neg =>
    have h2 : i = m := by omega
    subst h2
    have hcell := k.cell
    cases hs : smF a i with
    | none =>
      rw [hs] at hcell
      simp only [hcell, bA, F_contradiction_Smallest, g_contradiction_Smallest, go_sem, ↓tq_n, ↓tq_e, ↓tq_r, ↓bq_n, ↓bq_e, ↓bq_r, ↓rq_n, ↓rq_r, ↓rq_e]
      exact ret_hb k.le (by simp [smV, he, hs])
    | some s =>
      rw [hs] at hcell
      simp only [hcell, bA, F_contradiction_Smallest, g_contradiction_Smallest, go_sem, ↓tq_n, ↓tq_e, ↓tq_r, ↓bq_n, ↓bq_e, ↓bq_r, ↓rq_n, ↓rq_r, ↓rq_e]
      exact ret_hb k.le (by simp [smV, he, hs])
  have hc : (i : Int) < (m : Int) := by omega
  have hi0 : (0 : Int) ≤ (i : Int) := by omega
  simp only [hc, F_contradiction_Smallest, g_contradiction_Smallest, go_sem, ↓tq_n, ↓tq_e, ↓tq_r, ↓bq_n, ↓bq_e, ↓bq_r, ↓rq_n, ↓rq_r, ↓rq_e]
  refine CallS.mk (s_measure m n1 a u1 he i h2 bs hv x _ g k.cell) fun r g' hr => ?_
  obtain ⟨bh, hbh, rfl, rfl⟩ := hr
  have k2 := k.home hbh (.msl bh 0 m (some m)) (i64s (hmL m a i))
  have hbh0 := AH.none_of_le k.le hbh
  have hcell := k2.cell
  have hhm : ((g.put bs [I m, .sl n1 a.length (prs a) u1, .msl bh 0 m (some m), x, bA (smF a i)]).put bh (i64s (hmL m a i))).blk bh = some (i64s (hmL m a i)) := AH.blk_put _ _ _
  have hsm : smF a (i + 1) = if 0 < hmN a i i ∧ (∀ s, smF a i = some s → hmN a i i ≤ s.length) then extF a i (hmN a i) (hmN a i i) i [] (smF a i) else smF a i := rfl
  have hK := hmN_le he i i
  have hil : i < (hmL m a i).length := by rw [hmL_len]; exact h2
  have hg1 := hmL_get (n := m) (a := a) (v := i) h2
  generalize ((g.put bs [I m, .sl n1 a.length (prs a) u1, .msl bh 0 m (some m), x, bA (smF a i)]).put bh (i64s (hmL m a i))) = g2 at k2 hcell hhm ⊢
  have skip : smF a (i + 1) = smF a i → ∃ hv x, SS h' bs m (.sl n1 a.length (prs a) u1) hv x [] (smF a (i + 1)) g2 := fun e => ⟨_, x, by rw [e]; exact k2.unhome hbh0⟩
  by_cases c1 : 0 < hmN a i i
  case neg =>
    have c1' : ¬ (0 : Int) < (hmN a i i : Int) := by omega
    rw [if_neg (fun hh => c1 hh.1)] at hsm
    simp only [hcell, hc, hi0, hhm, i64s_drop hil, hg1, c1', F_contradiction_Smallest, g_contradiction_Smallest, go_sem, ↓tq_n, ↓tq_e, ↓tq_r, ↓bq_n, ↓bq_e, ↓bq_r, ↓rq_n, ↓rq_r, ↓rq_e]
    exact ⟨by rw [inR64]; omega, (i + 1, g2), ⟨by simp only; omega, skip hsm⟩, by simp only; omega, (GStep.forget (by repeat' first | exact EnvLe.nil _ | refine EnvLe.cons (AV.le.of_eq rfl) ?_ | refine EnvLe.cons (AV.le.undef _) ?_ | refine EnvLe.cons AV.le.unk ?_) (by repeat' first | exact AH.le.refl _ | assumption | (refine AH.le_put ?_ (by first | assumption | exact (AH.blk_put_ne _ _ (by assumption)).trans (by assumption) | exact AH.none_put (by assumption) | exact AH.none_put (AH.none_put (by assumption)) | (simp only [AH.blk_setTok, AH.tok_put] at *; first | assumption | exact AH.none_put (by assumption)))) | (refine AH.le_setTok ?_ (by first | assumption | exact (AH.blk_put_ne _ _ (by assumption)).trans (by assumption) | exact AH.none_put (by assumption) | exact AH.none_put (AH.none_put (by assumption)) | (simp only [AH.blk_setTok, AH.tok_put] at *; first | assumption | exact AH.none_put (by assumption)))) | (refine AH.le_putM ?_ (by first | assumption | exact (AH.mp_putM_ne _ _ (by assumption)).trans (by assumption) | (simp only [AH.mp_put, AH.mp_setTok] at *; assumption)))))⟩
  have c1' : (0 : Int) < (hmN a i i : Int) := by omega
  by_cases c2 : ∀ s, smF a i = some s → hmN a i i ≤ s.length
  case neg =>
    rw [if_neg (fun hh => c2 hh.2)] at hsm
    cases hs : smF a i with
    | none => exact absurd (fun s e => by rw [hs] at e; cases e) c2
    | some s =>
      have c3 : ¬ (hmN a i i : Int) ≤ (s.length : Int) := fun hh => c2 fun t ht => by rw [hs] at ht; cases ht; omega
      rw [hs] at hcell
      simp only [hcell, hc, hi0, hhm, i64s_drop hil, hg1, c1', bA, c3, F_contradiction_Smallest, g_contradiction_Smallest, go_sem, ↓tq_n, ↓tq_e, ↓tq_r, ↓bq_n, ↓bq_e, ↓bq_r, ↓rq_n, ↓rq_r, ↓rq_e]
      exact ⟨by rw [inR64]; omega, (i + 1, g2), ⟨by simp only; omega, skip hsm⟩, by simp only; omega, (GStep.forget (by repeat' first | exact EnvLe.nil _ | refine EnvLe.cons (AV.le.of_eq rfl) ?_ | refine EnvLe.cons (AV.le.undef _) ?_ | refine EnvLe.cons AV.le.unk ?_) (by repeat' first | exact AH.le.refl _ | assumption | (refine AH.le_put ?_ (by first | assumption | exact (AH.blk_put_ne _ _ (by assumption)).trans (by assumption) | exact AH.none_put (by assumption) | exact AH.none_put (AH.none_put (by assumption)) | (simp only [AH.blk_setTok, AH.tok_put] at *; first | assumption | exact AH.none_put (by assumption)))) | (refine AH.le_setTok ?_ (by first | assumption | exact (AH.blk_put_ne _ _ (by assumption)).trans (by assumption) | exact AH.none_put (by assumption) | exact AH.none_put (AH.none_put (by assumption)) | (simp only [AH.blk_setTok, AH.tok_put] at *; first | assumption | exact AH.none_put (by assumption)))) | (refine AH.le_putM ?_ (by first | assumption | exact (AH.mp_putM_ne _ _ (by assumption)).trans (by assumption) | (simp only [AH.mp_put, AH.mp_setTok] at *; assumption)))))⟩
  rw [if_pos ⟨c1, c2⟩] at hsm
  have hx := s_extend m n1 a u1 he i h2 bs bh (hmN a i i) i [] (smF a i) x g2 _ h2 (by simp; omega) (by simpa using c1) (by simp) (AH.blk_put _ _ _) k2
  cases hs : smF a i with
  | none =>
    rw [hs] at hcell
    simp only [hcell, hc, hi0, hhm, i64s_drop hil, hg1, c1', bA, F_contradiction_Smallest, g_contradiction_Smallest, go_sem, ↓tq_n, ↓tq_e, ↓tq_r, ↓bq_n, ↓bq_e, ↓bq_r, ↓rq_n, ↓rq_r, ↓rq_e]
    refine CallS.mk hx fun r g3 hr => ?_
    obtain ⟨rfl, x', hs3⟩ := hr
    simp only [F_contradiction_Smallest, g_contradiction_Smallest, go_sem, ↓tq_n, ↓tq_e, ↓tq_r, ↓bq_n, ↓bq_e, ↓bq_r, ↓rq_n, ↓rq_r, ↓rq_e]
    exact ⟨by rw [inR64]; omega, (i + 1, g3), ⟨by simp only; omega, _, x', by rw [hsm]; exact hs3.unhome hbh0⟩, by simp only; omega, (GStep.forget (by repeat' first | exact EnvLe.nil _ | refine EnvLe.cons (AV.le.of_eq rfl) ?_ | refine EnvLe.cons (AV.le.undef _) ?_ | refine EnvLe.cons AV.le.unk ?_) (by repeat' first | exact AH.le.refl _ | assumption | (refine AH.le_put ?_ (by first | assumption | exact (AH.blk_put_ne _ _ (by assumption)).trans (by assumption) | exact AH.none_put (by assumption) | exact AH.none_put (AH.none_put (by assumption)) | (simp only [AH.blk_setTok, AH.tok_put] at *; first | assumption | exact AH.none_put (by assumption)))) | (refine AH.le_setTok ?_ (by first | assumption | exact (AH.blk_put_ne _ _ (by assumption)).trans (by assumption) | exact AH.none_put (by assumption) | exact AH.none_put (AH.none_put (by assumption)) | (simp only [AH.blk_setTok, AH.tok_put] at *; first | assumption | exact AH.none_put (by assumption)))) | (refine AH.le_putM ?_ (by first | assumption | exact (AH.mp_putM_ne _ _ (by assumption)).trans (by assumption) | (simp only [AH.mp_put, AH.mp_setTok] at *; assumption)))))⟩
  | some s =>
    have c3 : (hmN a i i : Int) ≤ (s.length : Int) := by have := c2 s hs; omega
    rw [hs] at hcell
    simp only [hcell, hc, hi0, hhm, i64s_drop hil, hg1, c1', bA, c3, F_contradiction_Smallest, g_contradiction_Smallest, go_sem, ↓tq_n, ↓tq_e, ↓tq_r, ↓bq_n, ↓bq_e, ↓bq_r, ↓rq_n, ↓rq_r, ↓rq_e]
    refine CallS.mk hx fun r g3 hr => ?_
    obtain ⟨rfl, x', hs3⟩ := hr
    simp only [F_contradiction_Smallest, g_contradiction_Smallest, go_sem, ↓tq_n, ↓tq_e, ↓tq_r, ↓bq_n, ↓bq_e, ↓bq_r, ↓rq_n, ↓rq_r, ↓rq_e]
    exact ⟨by rw [inR64]; omega, (i + 1, g3), ⟨by simp only; omega, _, x', by rw [hsm]; exact hs3.unhome hbh0⟩, by simp only; omega, (GStep.forget (by repeat' first | exact EnvLe.nil _ | refine EnvLe.cons (AV.le.of_eq rfl) ?_ | refine EnvLe.cons (AV.le.undef _) ?_ | refine EnvLe.cons AV.le.unk ?_) (by repeat' first | exact AH.le.refl _ | assumption | (refine AH.le_put ?_ (by first | assumption | exact (AH.blk_put_ne _ _ (by assumption)).trans (by assumption) | exact AH.none_put (by assumption) | exact AH.none_put (AH.none_put (by assumption)) | (simp only [AH.blk_setTok, AH.tok_put] at *; first | assumption | exact AH.none_put (by assumption)))) | (refine AH.le_setTok ?_ (by first | assumption | exact (AH.blk_put_ne _ _ (by assumption)).trans (by assumption) | exact AH.none_put (by assumption) | exact AH.none_put (AH.none_put (by assumption)) | (simp only [AH.blk_setTok, AH.tok_put] at *; first | assumption | exact AH.none_put (by assumption)))) | (refine AH.le_putM ?_ (by first | assumption | exact (AH.mp_putM_ne _ _ (by assumption)).trans (by assumption) | (simp only [AH.mp_put, AH.mp_setTok] at *; assumption)))))⟩
end Go.Proofs.YtidmekdkfiljjaaGreat
namespace Go.Proofs.YtidmekdkfiljjaaGreat
open Go Go.Abs
set_option linter.unusedSimpArgs false
set_option linter.unusedVariables false
set_option maxRecDepth 20000

/-- The vertices to which arcs lead from u. -/
def Sc (a : List (Int × Int)) (u m : Nat) : Prop := ∀ y, m.testBit y = true ↔ ∃ j, j < a.length ∧ fr a j = u ∧ tt a j = y
/-- The vertices found last, as bits. -/
def Lym (a : List (Int × Int)) (v s m : Nat) : Prop := ∀ y, m.testBit y = true ↔ (s = 1 ∧ y = v) ∨ (1 < s ∧ y ≠ v ∧ lev1 a v y (s - 1))
def HmC (a : List (Int × Int)) (v s : Nat) (d : List Int) (x : Nat) : Prop := (d.getD x 0 = 0 ∧ ∀ L, 1 ≤ L → L < s → ¬ WL a v x L v) ∨ ∃ L : Nat, L < s ∧ d.getD x 0 = L ∧ lev1 a v x L
/-- Amidst a round: the vertices below u are done. -/
structure HmJ (n : Nat) (a : List (Int × Int)) (v s u : Nat) (d : List Int) (X : Nat) : Prop where
  len : d.length = n
  lo : ∀ x, x < n → x < u → HmC a v (s + 1) d x
  hi : ∀ x, x < n → u ≤ x → HmC a v s d x
  bits : ∀ y, X.testBit y = true ↔ y < u ∧ y < n ∧ d.getD y 0 = s
theorem wl_lo {a : List (Int × Int)} {v x L : Nat} (h : WL a v x L v) (hL : 1 ≤ L) : v ≤ x := by
  obtain ⟨m, rfl⟩ : ∃ m, L = m + 1 := ⟨L - 1, by omega⟩
  obtain ⟨k, _, h2, h3, _⟩ := wl_first.1 h
  exact h3
theorem hmJ_zero {n : Nat} {a : List (Int × Int)} {v s : Nat} (hs : 1 ≤ s) {d : List Int} (h : HmT n a v s d) : HmJ n a v s v d 0 := by
  refine ⟨h.1, fun x hx hv => .inl ⟨?_, fun L h1 h2 hw => by have := wl_lo hw h1; omega⟩, fun x hx _ => h.2 x hx, fun y => ?_⟩
  · rcases h.2 x hx with ⟨h1, _⟩ | ⟨L, h1, h2, h3⟩
    · exact h1
    · have := wl_lo h3.2.1 h3.1; omega
  · simp only [Nat.zero_testBit, Bool.false_eq_true, false_iff]
    rintro ⟨h1, h2, h3⟩
    rcases h.2 y h2 with ⟨k1, _⟩ | ⟨L, k1, k2, k3⟩
    · omega
    · omega
theorem lym_wl {a : List (Int × Int)} {v s m : Nat} (hm : Lym a v s m) (hs : 1 ≤ s) {x : Nat} (hno : ∀ L, 1 ≤ L → L < s → ¬ WL a v x L v) : WL a v x s v ↔ v ≤ x ∧ ∃ j, j < a.length ∧ fr a j = x ∧ m.testBit (tt a j) = true := by
  obtain ⟨k, rfl⟩ : ∃ k, s = k + 1 := ⟨s - 1, by omega⟩
  rw [wl_first]
  constructor
  · rintro ⟨j, h1, h2, h3, h4⟩
    refine ⟨h3, j, h1, h2, (hm _).2 ?_⟩
    rcases Nat.eq_zero_or_pos k with rfl | hk
    · exact .inl ⟨rfl, wl_zero.1 h4⟩
    · refine .inr ⟨by omega, fun hh => ?_, hk, h4, fun q h5 h6 h7 => ?_⟩
      · exact hno 1 (Nat.le_refl _) (by omega) (wl_first.2 ⟨j, h1, h2, h3, wl_zero.2 hh⟩)
      · exact hno (q + 1) (by omega) (by omega) (wl_first.2 ⟨j, h1, h2, h3, h7⟩)
  · rintro ⟨h3, j, h1, h2, h4⟩
    refine ⟨j, h1, h2, h3, ?_⟩
    rcases (hm _).1 h4 with ⟨h6, h7⟩ | ⟨h6, h7, h8⟩
    · have : k = 0 := by omega
      subst this
      exact wl_zero.2 h7
    · exact h8.2.1
theorem and_ne {x y : Nat} : x &&& y ≠ 0 ↔ ∃ i, x.testBit i = true ∧ y.testBit i = true := by
  constructor
  · intro h
    obtain ⟨i, hi⟩ := Nat.exists_testBit_of_ne_zero h
    rw [Nat.testBit_and, Bool.and_eq_true] at hi
    exact ⟨i, hi⟩
  · rintro ⟨i, h1, h2⟩ h
    have := congrArg (fun z => z.testBit i) h
    simp [Nat.testBit_and, h1, h2] at this
theorem sc_and {a : List (Int × Int)} {u sc m : Nat} (hsc : Sc a u sc) : sc &&& m ≠ 0 ↔ ∃ j, j < a.length ∧ fr a j = u ∧ m.testBit (tt a j) = true := by
  rw [and_ne]
  constructor
  · rintro ⟨i, h1, h2⟩
    obtain ⟨j, j1, j2, j3⟩ := (hsc i).1 h1
    exact ⟨j, j1, j2, by rw [j3]; exact h2⟩
  · rintro ⟨j, j1, j2, j3⟩
    exact ⟨tt a j, (hsc _).2 ⟨j, j1, j2, rfl⟩, j3⟩
theorem hmJ_no {n : Nat} {a : List (Int × Int)} {v s u : Nat} {d : List Int} {X sc m : Nat} (hs : 1 ≤ s) (hm : Lym a v s m) (hsc : Sc a u sc) (hu : u < n) (h : HmJ n a v s u d X) (hi : ¬ (d.getD u 0 = 0 ∧ sc &&& m ≠ 0)) : HmJ n a v s (u + 1) d X := by
  have hd : d.getD u 0 ≠ (s : Int) := fun hh => by
    rcases h.hi u hu (Nat.le_refl _) with ⟨h1, _⟩ | ⟨L, h1, h2, _⟩ <;> omega
  refine ⟨h.len, fun x hx hxu => ?_, fun x hx hxu => h.hi x hx (by omega), fun y => ?_⟩
  · rcases Nat.lt_or_ge x u with h1 | h1
    · exact h.lo x hx h1
    · have : x = u := by omega
      subst this
      rcases h.hi x hx (Nat.le_refl _) with ⟨k1, k2⟩ | ⟨L, k1, k2, k3⟩
      · refine .inl ⟨k1, fun L h2 h3 hw => ?_⟩
        rcases Nat.lt_or_ge L s with h4 | h4
        · exact k2 L h2 h4 hw
        · have : L = s := by omega
          subst this
          obtain ⟨_, j⟩ := (lym_wl hm hs k2).1 hw
          exact hi ⟨k1, (sc_and hsc).2 j⟩
      · exact .inr ⟨L, by omega, k2, k3⟩
  · rw [h.bits]
    constructor
    · rintro ⟨h1, h2, h3⟩; exact ⟨by omega, h2, h3⟩
    · rintro ⟨h1, h2, h3⟩
      refine ⟨?_, h2, h3⟩
      rcases Nat.lt_or_ge y u with h4 | h4
      · exact h4
      · have : y = u := by omega
        subst this
        exact absurd h3 hd
theorem hmJ_yes {n : Nat} {a : List (Int × Int)} {v s u : Nat} {d : List Int} {X sc m : Nat} (hs : 1 ≤ s) (hm : Lym a v s m) (hsc : Sc a u sc) (hv : v ≤ u) (hu : u < n) (h : HmJ n a v s u d X) (h1 : d.getD u 0 = 0) (h2 : sc &&& m ≠ 0) : HmJ n a v s (u + 1) (d.set u (s : Int)) (X ||| 2 ^ u) := by
  have hset : ∀ x, (d.set u (s : Int)).getD x 0 = if u = x then (s : Int) else d.getD x 0 := fun x => getD_setI (by rw [h.len]; exact hu) _ x
  have hcong : ∀ t x, u ≠ x → HmC a v t d x → HmC a v t (d.set u (s : Int)) x := fun t x hx hh => by
    unfold HmC at hh ⊢
    rw [hset, if_neg hx]
    exact hh
  have hlev : lev1 a v u s := by
    rcases h.hi u hu (Nat.le_refl _) with ⟨k1, k2⟩ | ⟨L, k1, k2, k3⟩
    · exact ⟨hs, (lym_wl hm hs k2).2 ⟨hv, (sc_and hsc).1 h2⟩, k2⟩
    · have := k3.1; omega
  refine ⟨by simpa using h.len, fun x hx hxu => ?_, fun x hx hxu => hcong _ _ (by omega) (h.hi x hx (by omega)), fun y => ?_⟩
  · by_cases e : u = x
    · subst e
      exact .inr ⟨s, by omega, by rw [hset, if_pos rfl], hlev⟩
    · exact hcong _ _ e (h.lo x hx (by omega))
  · rw [bit_or, Bool.or_eq_true, decide_eq_true_iff, h.bits, hset]
    by_cases e : u = y
    · subst e
      rw [if_pos rfl]
      exact ⟨fun _ => ⟨by omega, hu, rfl⟩, fun _ => .inr rfl⟩
    · rw [if_neg e]
      constructor
      · rintro (⟨a1, a2, a3⟩ | a1)
        · exact ⟨by omega, a2, a3⟩
        · exact absurd a1 e
      · rintro ⟨a1, a2, a3⟩
        exact .inl ⟨by omega, a2, a3⟩
theorem hmJ_end {n : Nat} {a : List (Int × Int)} (ha : ∀ k, k < a.length → fr a k < n) {v s : Nat} {d : List Int} {X Y : Nat} (hs : 1 ≤ s) (h : HmJ n a v s n d X) (hY : ∀ y, Y.testBit y = true ↔ X.testBit y = true ∧ y ≠ v) : HmT n a v (s + 1) d ∧ Lym a v (s + 1) Y := by
  have hT : HmT n a v (s + 1) d := ⟨h.len, fun x hx => h.lo x hx hx⟩
  refine ⟨hT, fun y => ?_⟩
  rw [hY, h.bits]
  constructor
  · rintro ⟨⟨_, h1, h2⟩, h3⟩
    refine .inr ⟨by omega, h3, ?_⟩
    rcases hT.2 y h1 with ⟨k1, k2⟩ | ⟨L, k1, k2, k3⟩
    · omega
    · have : L = s := by omega
      rw [Nat.add_sub_cancel, ← this]; exact k3
  · rintro (⟨h1, _⟩ | ⟨h1, h2, h3⟩)
    · omega
    · rw [Nat.add_sub_cancel] at h3
      have hy : y < n := by
        obtain ⟨k, rfl⟩ : ∃ k, s = k + 1 := ⟨s - 1, by omega⟩
        obtain ⟨j, j1, j2, _⟩ := wl_first.1 h3.2.1
        rw [← j2]; exact ha j j1
      refine ⟨⟨hy, hy, ?_⟩, h2⟩
      rcases hT.2 y hy with ⟨k1, k2⟩ | ⟨L, k1, k2, k3⟩
      · exact absurd h3.2.1 (k2 s hs (by omega))
      · rw [k2, lev1_uni k3 h3]
theorem lym_one (a : List (Int × Int)) (v : Nat) : Lym a v 1 (2 ^ v) := fun y => by
  rw [Nat.testBit_two_pow]
  simp only [decide_eq_true_iff]
  exact ⟨fun h => .inl ⟨trivial, h.symm⟩, fun h => h.elim (fun k => k.2.symm) fun k => by omega⟩
/-- The sets as lists. -/
theorem lym_rch {n : Nat} {a : List (Int × Int)} (ha : ∀ k, k < a.length → fr a k < n) {v s m : Nat} (hv : v < n) (hs : 1 ≤ s) (h : Lym a v s m) : Rch a v s (nats ((List.range n).filter fun y => m.testBit y)) := fun x => by
  constructor
  · intro hx
    obtain ⟨y, rfl, hy⟩ := of_nats hx
    rw [List.mem_filter] at hy
    exact ⟨y, rfl, (h y).1 hy.2⟩
  · rintro ⟨y, rfl, hy⟩
    refine mem_nats.2 (List.mem_filter.2 ⟨List.mem_range.2 ?_, (h y).2 hy⟩)
    rcases hy with ⟨_, rfl⟩ | ⟨h1, _, h3⟩
    · exact hv
    · obtain ⟨k, hk⟩ : ∃ k, s - 1 = k + 1 := ⟨s - 2, by omega⟩
      rw [hk] at h3
      obtain ⟨j, j1, j2, _⟩ := wl_first.1 h3.2.1
      rw [← j2]; exact ha j j1
theorem lym_empty {n m : Nat} (h : m = 0) : nats ((List.range n).filter fun y => m.testBit y) = [] := by
  subst h; simp [nats]
theorem hm_done {n : Nat} {a : List (Int × Int)} (ha : ∀ k, k < a.length → fr a k < n) {v s : Nat} {d : List Int} (hv : v < n) (hs : 1 ≤ s) (h : HmT n a v s d) (hm : Lym a v s 0) : d = hmL n a v := by
  have hR := lym_rch ha hv hs hm
  apply List.ext_getElem?
  intro i
  by_cases hi : i < n
  · have h1 := hmT_end hs hR h (lym_empty rfl) hi
    have h2 : i < d.length := by rw [h.1]; exact hi
    have h3 : d.getD i 0 = d[i] := by simp [List.getD, h2]
    rw [List.getElem?_eq_getElem h2, ← h3, h1]
    simp [hmL, hi]
  · rw [List.getElem?_eq_none (by rw [h.1]; omega), List.getElem?_eq_none (by rw [hmL_len]; omega)]
theorem lym_le {n : Nat} {a : List (Int × Int)} (ha : ∀ k, k < a.length → fr a k < n) {v s m : Nat} (hv : v < n) (hs : 1 ≤ s) (h : Lym a v s m) (hne : m ≠ 0) : s ≤ n := by
  obtain ⟨i, hi⟩ := Nat.exists_testBit_of_ne_zero hne
  have hR := lym_rch ha hv hs h
  exact rch_le ha hv hR (fun e => by
    have : (i : Int) ∈ nats ((List.range n).filter fun y => m.testBit y) := (hR _).2 ⟨i, rfl, (h i).1 hi⟩
    rw [e] at this; cases this)
end Go.Proofs.YtidmekdkfiljjaaGreat
namespace Go.Proofs.YtidmekdkfiljjaaGreat
open Go Go.Abs
set_option linter.unusedSimpArgs false
set_option linter.unusedVariables false
set_option maxRecDepth 20000

theorem lev1_le {n : Nat} {a : List (Int × Int)} (ha : ∀ k, k < a.length → fr a k < n) {v L : Nat} (hv : v < n) (h : lev1 a v v L) : L ≤ n := by
  rcases Nat.lt_or_ge 1 L with h1 | h1
  · obtain ⟨m, rfl⟩ : ∃ m, L = m + 1 := ⟨L - 1, by omega⟩
    obtain ⟨j, j1, j2, j3, j4, j5⟩ := lev1_down h (by omega)
    obtain ⟨ks, e1, e2, e3⟩ := j5.2.1
    obtain ⟨q, q1, q2, q3, q4⟩ := iw_short ha hv e2
    have hq : 1 ≤ q.length := by
      cases q with
      | nil => exact absurd q4 j4
      | cons => simp
    rcases Nat.lt_or_ge q.length m with h4 | h4
    · exact absurd ⟨q, rfl, q4, fun k hk => e3 k (q3 k hk)⟩ (j5.2.2 q.length hq h4)
    · omega
  · omega
noncomputable def cyS (n : Nat) (a : List (Int × Int)) : Nat → Int × Int
  | 0 => (-1, n + 1)
  | v + 1 => if 0 < hmN a v v ∧ (hmN a v v : Int) < (cyS n a v).2 then (v, hmN a v v) else cyS n a v
theorem cyS_spec {n : Nat} {a : List (Int × Int)} (ha : ∀ k, k < a.length → fr a k < n) : ∀ i, i ≤ n → ((cyS n a i).1 = -1 ∧ (cyS n a i).2 = n + 1 ∧ ∀ v, v < i → hmN a v v = 0) ∨ ∃ v, v < i ∧ 0 < hmN a v v ∧ cyS n a i = ((v : Int), (hmN a v v : Int)) ∧ ∀ u, u < i → 0 < hmN a u u → hmN a v v ≤ hmN a u u := by
  intro i
  induction i with
  | zero => intro _; exact .inl ⟨rfl, rfl, fun v hv => absurd hv (Nat.not_lt_zero _)⟩
  | succ i ih =>
    intro hi
    have hle : hmN a i i ≤ n := by
      rcases hmN_spec a i i with ⟨h1, _⟩ | h1
      · omega
      · exact lev1_le ha hi h1
    unfold cyS
    rcases ih (by omega) with ⟨h1, h2, h3⟩ | ⟨v, h1, h2, h3, h4⟩
    · rw [h2]
      by_cases c : 0 < hmN a i i
      · rw [if_pos ⟨c, by omega⟩]
        refine .inr ⟨i, by omega, c, rfl, fun u hu hu2 => ?_⟩
        rcases lt_succ_cases hu with h5 | rfl
        · have := h3 u h5; omega
        · exact Nat.le_refl _
      · rw [if_neg fun hh => c hh.1]
        refine .inl ⟨h1, h2, fun v hv => ?_⟩
        rcases lt_succ_cases hv with h5 | rfl
        · exact h3 v h5
        · omega
    · rw [h3]
      by_cases c : 0 < hmN a i i ∧ (hmN a i i : Int) < (hmN a v v : Int)
      · rw [if_pos c]
        refine .inr ⟨i, by omega, c.1, rfl, fun u hu hu2 => ?_⟩
        rcases lt_succ_cases hu with h5 | rfl
        · have := h4 u h5 hu2; omega
        · exact Nat.le_refl _
      · rw [if_neg c]
        refine .inr ⟨v, by omega, h2, rfl, fun u hu hu2 => ?_⟩
        rcases lt_succ_cases hu with h5 | rfl
        · exact h4 u h5 hu2
        · omega
/-- The girth. -/
theorem hm_gi {n : Nat} {a : List (Int × Int)} (ha : ∀ k, k < a.length → fr a k < n) {g : Nat} (hg : Gi a g) : ∃ v, v < n ∧ hmN a v v = g := by
  obtain ⟨hg0, ⟨ks, u, h1, h2⟩, hmn⟩ := hg
  have hne : ks ≠ [] := fun hh => by subst hh; simp at h2; omega
  obtain ⟨v, ⟨k, hk, hkv⟩, hmin⟩ := least_of (p := fun v => ∃ k ∈ ks, fr a k = v) (by
    cases ks with
    | nil => exact absurd rfl hne
    | cons k ks => exact ⟨_, k, by simp, rfl⟩)
  have hmin : ∀ j ∈ ks, v ≤ fr a j := fun j hj => by
    rcases Nat.lt_or_ge (fr a j) v with h5 | h5
    · exact absurd ⟨j, hj, rfl⟩ (hmin _ h5)
    · exact h5
  obtain ⟨q, r1, r2⟩ := iw_rot h1 hk
  have hw : IW a v (k :: q) v := ⟨iw_lt h1 k hk, hkv, by rw [← hkv]; exact r1⟩
  have hlen : (k :: q).length = g := by rw [r2.length_eq]; exact h2
  refine ⟨v, by rw [← hkv]; exact ha k (iw_lt h1 k hk), hmN_of ⟨hg0, ⟨k :: q, hlen, hw, fun j hj => hmin j (r2.mem_iff.1 hj)⟩, fun m hm hlt hw2 => ?_⟩⟩
  obtain ⟨ks2, e1, e2, _⟩ := hw2
  have := hmn ks2 v (fun hh => by subst hh; simp at e1; omega) e2
  omega
theorem cyS_gi {n : Nat} {a : List (Int × Int)} (ha : ∀ k, k < a.length → fr a k < n) : ((cyS n a n).1 = -1 ∧ ∀ ks u, ks ≠ [] → ¬ IW a u ks u) ∨ ∃ v g : Nat, v < n ∧ cyS n a n = ((v : Int), (g : Int)) ∧ hmN a v v = g ∧ Gi a g := by
  have hgi : ∀ v, 0 < hmN a v v → ∃ ks, ks ≠ [] ∧ IW a v ks v ∧ ks.length = hmN a v v := fun v hv => by
    rcases hmN_spec a v v with ⟨h1, _⟩ | h1
    · omega
    · obtain ⟨ks, e1, e2, _⟩ := h1.2.1
      exact ⟨ks, fun hh => by subst hh; simp at e1; omega, e2, e1⟩
  rcases cyS_spec ha n (Nat.le_refl _) with ⟨h1, h2, h3⟩ | ⟨v, h1, h2, h3, h4⟩
  · refine .inl ⟨h1, fun ks u hk hw => ?_⟩
    obtain ⟨g, hg⟩ := gi_of hw hk
    obtain ⟨v, hv, e⟩ := hm_gi ha hg
    have := h3 v hv
    have := hg.1
    omega
  · obtain ⟨ks, k1, k2, k3⟩ := hgi v h2
    obtain ⟨g, hg⟩ := gi_of k2 k1
    obtain ⟨u, hu, e⟩ := hm_gi ha hg
    have h5 := h4 u hu (by rw [e]; exact hg.1)
    have h6 := hg.2.2 ks v k1 k2
    have h7 : hmN a v v = g := by omega
    exact .inr ⟨v, g, h1, by rw [h3, h7], h7, hg⟩
/-- The next vertex of the cycle. -/
noncomputable def nxP (a : List (Int × Int)) (best at_ k u : Nat) : Bool := decide (best < u) && (decide (∃ j, j < a.length ∧ fr a j = at_ ∧ tt a j = u) && decide (hmN a best u = k))
noncomputable def nxU (n : Nat) (a : List (Int × Int)) (best at_ k : Nat) : Nat := ((List.range n).find? (nxP a best at_ k)).getD 0
theorem find_range {n : Nat} {p : Nat → Bool} {x : Nat} (hx : x < n) (hp : p x = true) : ∃ y, (List.range n).find? p = some y ∧ y < n ∧ p y = true ∧ ∀ z, z < y → p z = false := by
  cases h : (List.range n).find? p with
  | none => exact absurd hp (by simpa using List.find?_eq_none.1 h x (List.mem_range.2 hx))
  | some y =>
    obtain ⟨h1, ps, bs, h2, h3⟩ := List.find?_eq_some_iff_append.1 h
    refine ⟨y, rfl, List.mem_range.1 (List.mem_of_find?_eq_some h), h1, fun z hz => ?_⟩
    have hl : ps.length < (List.range n).length := by rw [h2]; simp
    have hy : y = ps.length := by
      have := congrArg (fun l => l[ps.length]?) h2
      simp only [List.getElem?_append_right (Nat.le_refl _), Nat.sub_self, List.getElem?_cons_zero] at this
      rw [List.getElem?_eq_getElem hl, List.getElem_range] at this
      exact (Option.some.inj this).symm
    have hz2 : z ∈ ps := by
      have h4 : (List.range n)[z]? = ps[z]? := by rw [h2, List.getElem?_append_left (by omega)]
      have h5 : z < n := by rw [List.length_range] at hl; omega
      rw [List.getElem?_eq_getElem (by rw [List.length_range]; exact h5), List.getElem_range] at h4
      exact List.mem_of_getElem? h4.symm
    simpa using h3 z hz2
theorem nxU_spec {n : Nat} {a : List (Int × Int)} (ha : ∀ k, k < a.length → fr a k < n) {best at_ k : Nat} (hk : 1 ≤ k) (h : lev1 a best at_ (k + 1)) : nxU n a best at_ k < n ∧ nxP a best at_ k (nxU n a best at_ k) = true ∧ (∀ z, z < nxU n a best at_ k → nxP a best at_ k z = false) ∧ lev1 a best (nxU n a best at_ k) k := by
  obtain ⟨j, j1, j2, j3, j4, j5⟩ := lev1_down h hk
  have hlo := wl_lo j5.2.1 hk
  have hlt : tt a j < n := by
    obtain ⟨m, rfl⟩ : ∃ m, k = m + 1 := ⟨k - 1, by omega⟩
    obtain ⟨i, i1, i2, _⟩ := wl_first.1 j5.2.1
    rw [← i2]; exact ha i i1
  obtain ⟨y, y1, y2, y3, y4⟩ := find_range (p := nxP a best at_ k) hlt (by
    unfold nxP
    rw [decide_eq_true (show best < tt a j by omega), decide_eq_true ⟨j, j1, j2, rfl⟩, decide_eq_true (hmN_of j5)]; rfl)
  have e : nxU n a best at_ k = y := by unfold nxU; rw [y1]; rfl
  rw [e]
  refine ⟨y2, y3, y4, ?_⟩
  unfold nxP at y3
  rw [Bool.and_eq_true, Bool.and_eq_true, decide_eq_true_iff, decide_eq_true_iff, decide_eq_true_iff] at y3
  rcases hmN_spec a best y with ⟨h1, _⟩ | h1
  · omega
  · rwa [y3.2.2] at h1
noncomputable def cyP (n : Nat) (a : List (Int × Int)) (best : Nat) : Nat → Nat → List Nat
  | 0, _ => []
  | k + 1, at_ => nxU n a best at_ (k + 1) :: cyP n a best k (nxU n a best at_ (k + 1))
/-- The first order. -/
def orP (a : List (Int × Int)) (out : List Nat) (k : Nat) : Bool := decide (k ∉ out) && decide (∀ i, i < a.length → tt a i = k → fr a i ∈ out)
def orN (n : Nat) (a : List (Int × Int)) (out : List Nat) : Option Nat := (List.range n).find? (orP a out)
def orF (n : Nat) (a : List (Int × Int)) : Nat → List Nat → Option (List Nat)
  | 0, out => some out
  | r + 1, out => match orN n a out with
    | none => none
    | some k => orF n a r (out ++ [k])
/-- No piece leads back. -/
def Fwd (a : List (Int × Int)) (out : List Nat) : Prop := ∀ i, i < a.length → tt a i ∈ out → ∃ p q, out = p ++ tt a i :: q ∧ fr a i ∈ p
theorem orF_spec {n : Nat} {a : List (Int × Int)} {o : List Nat} (ho : Pre n o) (hol : o.length = n) (hb : ∀ i, i < a.length → bB a o i = false) (hf : ∀ i, i < a.length → fr a i < n) (hne : ∀ i, i < a.length → fr a i ≠ tt a i) : ∀ r out, Pre n out → out.length + r = n → Fwd a out → ∃ out', orF n a r out = some out' ∧ Pre n out' ∧ out'.length = n ∧ Fwd a out' := by
  intro r
  induction r with
  | zero => intro out h1 h2 h3; exact ⟨out, rfl, h1, by omega, h3⟩
  | succ r ih =>
    intro out h1 h2 h3
    have hall : ∀ v, v < n → v ∈ o := fun v hv => by
      refine Classical.byContradiction fun hn => ?_
      have := nd_lenN (A := v :: o) (n := n) (List.nodup_cons.2 ⟨hn, ho.1⟩) (fun x hx => by
        rcases List.mem_cons.1 hx with rfl | hx
        · exact hv
        · exact ho.2 x hx)
      simp only [List.length_cons] at this
      omega
    obtain ⟨v, hv, hvo⟩ := exists_out h1 (by omega)
    -- the first one of o that is not yet out
    obtain ⟨j, ⟨hj, hjo⟩, hmin⟩ := least_of (p := fun j => j < o.length ∧ o.getD j 0 ∉ out) (by
      obtain ⟨j, hj, e⟩ := List.getElem_of_mem (hall v hv)
      exact ⟨j, hj, by rw [show o.getD j 0 = v by rw [← e]; simp [List.getD, hj]]; exact hvo⟩)
    have hk : o.getD j 0 < n := ho.2 _ (by simp [List.getD, hj])
    have hp : orP a out (o.getD j 0) = true := by
      unfold orP
      rw [decide_eq_true hjo, Bool.true_and, decide_eq_true_iff]
      intro i hi he
      refine Classical.byContradiction fun hn => ?_
      have hfo := hall _ (hf i hi)
      obtain ⟨q, hq, e⟩ := List.getElem_of_mem hfo
      have hjq : j < q := by
        rcases Nat.lt_trichotomy j q with h5 | h5 | h5
        · exact h5
        · subst h5
          have h6 : fr a i = tt a i := by rw [he, ← e]; simp [List.getD, hj]
          exact absurd h6 (hne i hi)
        · exact absurd ⟨hq, by rw [show o.getD q 0 = fr a i by rw [← e]; simp [List.getD, hq]]; exact hn⟩ (hmin q h5)
      have h7 := hb i hi
      have h8 : bB a o i = true := by
        unfold bB
        refine List.any_eq_true.2 ⟨q, List.mem_range.2 hq, ?_⟩
        rw [Bool.and_eq_true, decide_eq_true_iff, decide_eq_true_iff]
        refine ⟨by rw [← e]; simp [List.getD, hq], List.mem_take_iff_getElem.2 ⟨j, by omega, ?_⟩⟩
        rw [he]; simp [List.getD, hj]
      rw [h7] at h8; cases h8
    obtain ⟨k, k1, k2, k3, _⟩ := find_range (p := orP a out) hk hp
    unfold orP at k3
    rw [Bool.and_eq_true, decide_eq_true_iff, decide_eq_true_iff] at k3
    have e : orF n a (r + 1) out = orF n a r (out ++ [k]) := by
      have : orN n a out = some k := k1
      simp only [orF, this]
    rw [e]
    refine ih (out ++ [k]) (h1.snoc k2 k3.1) (by simp; omega) fun i hi hm => ?_
    rcases List.mem_append.1 hm with hm | hm
    · obtain ⟨p, q, e1, e2⟩ := h3 i hi hm
      exact ⟨p, q ++ [k], by rw [e1]; simp, e2⟩
    · exact ⟨out, [], by rw [List.mem_singleton.1 hm], k3.2 i hi (List.mem_singleton.1 hm)⟩
end Go.Proofs.YtidmekdkfiljjaaGreat
