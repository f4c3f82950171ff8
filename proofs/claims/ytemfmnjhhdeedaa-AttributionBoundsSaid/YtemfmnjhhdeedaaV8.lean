/- Go's Sorted over Values of a list that is kept in memory. No condition. -/
import Derived.Test.YtemfmnjhhdeedaaV2
import Derived.Test.YtemfmnjhhdeedaaC1
import Derived.Test.YtemfmnjhhdeedaaD1
namespace Go.Proofs.Ytemfmnjhhdeedaa
open Go Go.Abs Go.Shelf Go.Proofs Go.RowKit Go.Maps Go.Sort
set_option maxRecDepth 100000
set_option linter.unusedSimpArgs false
set_option linter.unusedVariables false

/-- A call with a new slice of whole numbers as its answer, at a heap. -/
theorem acall_of_row {f : FuncId} {args : List AV} {t : TypeId} {zs : List Int} (hz : ∀ x ∈ zs, InR .i64 x) (hok : callOK Try.prog f = true) (h' : AH)
    (H : ∀ (s : Sg) (vs : List Value) (w : World), VRels s args vs → HSim s h' w (ownOf s h') w → Calls Try.prog f vs.toArray w fun e w' => ∃ v : Value, e = .returned v ∧
      w'.ownsRow w.heap.size t 1 v zs.length (zs.map encZ) ∧ (v = .slice none 0 0 ↔ zs = []) ∧ Below w.heap.size w w') :
    ACalls Try.prog f args h' fun r h'' => r = .sl (decide (zs = [])) zs.length (i64s zs) .unk ∧ h'' = h' := by
  refine ⟨hok, fun s vs w hv hs => ?_⟩
  refine (H s vs w hv hs).mono ?_
  rintro e w' ⟨v, rfl, hrow, hnil, hb⟩
  have hlat : Later w w' := ⟨hb.block, hb.size, hb.os, hb.tape, hb.output⟩
  rcases hrow.2 with ⟨rfl, hz0⟩ | ⟨gb, cap, cur, rfl, hbase, hgb, r1, r2, r3, r4⟩
  · have hss : zs = [] := List.eq_nil_of_length_eq_zero hz0
    subst hss
    exact ⟨s, _, _, h', Sg.le.refl s, hs.later hlat, rfl, .sl true 0 [] .unk none 0 [] rfl (by simp) (by simp) rfl (fun _ => ⟨rfl, rfl⟩) (by simp) (Nat.le_refl _) (by omega) trivial, by simp [i64s], rfl⟩
  · have hne : zs ≠ [] := fun hh => by have := hnil.2 hh; cases this
    obtain ⟨f1, f2, f3⟩ := hs.new_free hbase
    have hcur : ∀ j, j < zs.length → cur[j]? = some (.int .i64 (zs.getD j 0)) := fun j hj => by
      have e1 : (cur.toList.take (zs.length * 1))[j]? = (zs.map encZ)[j]? := by rw [r4]
      rw [List.getElem?_take, if_pos (by omega)] at e1
      simp only [Array.getElem?_toList] at e1
      rw [e1]
      simp [encZ, hj, List.getD]
    obtain ⟨a1, a2⟩ := (hs.later hlat).addFx hgb (zs.map fun x => Value.int .i64 x) (fun j v hj => by
      by_cases hjz : j < zs.length
      · rw [hcur j hjz]
        simp [hjz] at hj
        simp [hjz, List.getD, hj]
      · simp [show zs.length ≤ j by omega] at hj) (fun v hv => by obtain ⟨x, _, rfl⟩ := List.mem_map.1 hv; rfl) f1 f2 f3
    refine ⟨_, _, _, h', a1, a2, rfl, ?_, rfl, rfl⟩
    have hd : decide (zs = []) = false := decide_eq_false hne
    rw [hd]
    refine .sl false zs.length (i64s zs) .unk (some ⟨gb, 0, none⟩) cap (zs.map fun x => Value.int .i64 x) (by simp [i64s]) (fun j x u hx hu => ?_) (fun j u hu => ⟨_, rfl, rfl, ?_⟩) rfl (by simp) (fun ad h _ => by cases h; rfl) r1 (by have := r2; simp only [maxLen] at this; omega) trivial
    · by_cases hjz : j < zs.length
      · simp [i64s, hjz] at hx hu
        rw [← hx, ← hu]
        exact .int .i64 _ (hz _ (List.getElem_mem hjz))
      · simp [i64s, show zs.length ≤ j by omega] at hx
    · simp only [Sg.fxNew, if_pos rfl, Nat.zero_add]
      exact hu
theorem r_slices_ValuesM (b n q : Nat) (h : AH) : RCall Try.prog n_slices_Values_intX [.msl b 0 n (some q)] h (.fn 64 [.sptr [.msl b 0 n (some q)]]) := by
  refine RCall.of hm cF_slices_Values_intX (by simp [g_slices_Values_intX]) fun hw h' hl => ?_
  simp only [F_slices_Values_intX, g_slices_Values_intX, go_sem, reduceIte, Nat.reduceEqDiff, Nat.reduceAdd, Nat.reduceMul, Nat.reduceSub, reduceCtorEq, Nat.reduceLeDiff, Nat.reduceLT, Int.reduceLT, Int.reduceLE, Int.reduceToNat, Int.reduceAdd, Int.reduceSub, Int.reduceNeg, Int.reduceMul, Int.reduceEq, ← Bool.decide_and, ← Bool.decide_or, ↓tq_n, ↓tq_e, ↓tq_r, ↓bq_n, ↓bq_e, ↓bq_r, ↓rq_n, ↓rq_r, ↓rq_e]
  exact ret_ok rfl
theorem r_slices_SortedM (xs : List Int) (b q : Nat) (more : List AV) (hz : ∀ x ∈ xs, InR .i64 x) (hpos : 0 < xs.length) (hln : xs.length ≤ 1000000) (h : AH) (hbk : h.blk b = some (i64s xs ++ more)) :
    RCall Try.prog 38 [.fn 64 [.sptr [.msl b 0 xs.length (some q)]]] h (.sl false (srt xs).length (i64s (srt xs)) .unk) := by
  intro h' hl
  have hbk := hl.1 _ _ hbk
  have hne : decide (srt xs = []) = false := decide_eq_false fun hh => by
    have := srt_len xs
    rw [hh] at this
    simp at this
    omega
  rw [← hne]
  refine acall_of_row (t := rv.t 26) (fun x hx => hz x ((srt_perm xs).mem_iff.1 hx)) (by kernel_rfl) h' (fun s vs w hv hs => ?_)
  obtain ⟨v, hv0, hr⟩ := hv.at_ (j := 0) rfl
  have hvs : vs = [v] := by
    match vs, hv.1, hv0 with
    | [u], _, h => simp at h; rw [h]
  subst hvs
  obtain ⟨cs, rfl, hcs⟩ := hr.fn_inv
  obtain ⟨v1, hv1, hr1⟩ := hcs.at_ (j := 0) rfl
  have hcs1 : cs = [v1] := by
    match cs, hcs.1, hv1 with
    | [u], _, h => simp at h; rw [h]
  subst hcs1
  obtain ⟨ad, us, rfl, hsp, hus, hfx⟩ := hr1.sptr_inv
  obtain ⟨sv, hu0, hr2⟩ := hus.at_ (j := 0) rfl
  obtain ⟨B, o, sp⟩ := ad
  simp only at hsp
  subst hsp
  have hcell := (hs.fx _ _ _ (hfx 0 sv hu0)).1
  simp only [Nat.add_zero] at hcell
  have hBlt : B < w.heap.size := lt_of_cell hcell
  have hseq : SeqV Fence.wide (4 - 1 - 1 - 1) Try.prog 64 #[.pointer (some ⟨B, o, none⟩)] xs w := by
    intro l J W hJ hY h0
    obtain ⟨c, kk, rfl, hc, _, _, _⟩ := hr2.msl_inv
    obtain ⟨c', ws, ty, k1, k2, k3, k4, _, _⟩ := hs.blk b _ hbk
    rw [hc] at k1
    cases k1
    have hcx : ∀ j, j < xs.length → w.cell? ⟨c, 0 + j, none⟩ = some (.int .i64 (xs[j]?.getD 0)) := fun j hj => by
      obtain ⟨v, v1, _, v2⟩ := k4 j (.int .i64 (xs[j]?.getD 0)) (by rw [List.getElem?_append_left (by rw [i64s_len]; exact hj)]; simp [i64s, hj])
      obtain ⟨rfl, _⟩ := v2.int_inv
      simp only [World.cell?, k2, Nat.zero_add]
      exact v1
    have := vals_some Fence.wide _ trivial rfl (by omega) l B o w.heap.size c 0 xs.length kk xs (by omega) (lt_of_cell (hcx 0 hpos)) hBlt w J hJ hY W hcell hcx h0
    rw [upto_all] at this
    exact this
  have cS := sortedV collLays Fence.wide 4 trivial trivial trivial trivial rfl (by omega) (sortsIn _) (enters_of Try.func63 (by kernel_rfl) rfl) 64 #[.pointer (some ⟨B, o, none⟩)] trivial (enters_of Try.func64 (by kernel_rfl) rfl) xs (by simp only [maxLen]; omega) (by omega) w hseq
  have cS' := callsIn_wide.1 cS
  refine cS'.mono ?_
  rintro e w' ⟨v, rfl, h1, h2, h3⟩
  rw [srt_len]
  refine ⟨v, rfl, h1, ?_, h3⟩
  rw [h2]
  constructor
  · intro hh; subst hh; exact List.eq_nil_of_length_eq_zero (by rw [srt_len]; rfl)
  · intro hh; exact List.eq_nil_of_length_eq_zero (by rw [← srt_len, hh]; rfl)
end Go.Proofs.Ytemfmnjhhdeedaa
