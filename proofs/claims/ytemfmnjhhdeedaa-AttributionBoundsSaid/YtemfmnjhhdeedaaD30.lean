/- Plain facts: the sets of a packing are contradictory and share nothing; what repairs meets each of them. No condition. -/
import Derived.Test.YtemfmnjhhdeedaaD27
import Derived.Test.YtemfmnjhhdeedaaD37
import Derived.Test.YtemfmnjhhdeedaaD29
namespace Go.Proofs.Ytemfmnjhhdeedaa
open Go Go.Abs
set_option linter.unusedSimpArgs false
set_option linter.unusedVariables false
set_option linter.unusedSectionVars false
set_option maxRecDepth 20000

theorem sub_pick (a : List (Int × Int)) {left s : List Int} (hs : ∀ k ∈ s, 0 ≤ k ∧ k < left.length) : sub (sub a left) s = sub a (pick left s) := by
  unfold sub pick
  rw [List.map_map]
  refine List.map_congr_left fun k hk => ?_
  have := hs k hk
  simp [List.getD, show k.toNat < left.length by omega]
section
variable {n : Nat} {a : List (Int × Int)} (he : Ev n a) {left : List Int} (hl : Ix a.length left) {s : List Int} (hs : smF (sub a left) n = some s)
include he hl hs
theorem pick_good : Good n a (pick left s) := by
  have h := pk_ix he hl hs
  refine ⟨pick_ix he hl hs, ?_⟩
  rw [← sub_pick a (ix_pw.1 h.1).1]
  exact h.2.2.2
theorem pick_min {i : Nat} (hi : i < (pick left s).length) : cyB n (sub a ((pick left s).eraseIdx i)) = false := by
  refine Bool.eq_false_iff.2 fun hc => ?_
  have h := pk_ix he hl hs
  have hev := sub_ev he hl
  have hf := smF_fst hev hs
  have e : (pick left s).eraseIdx i = pick left (s.eraseIdx i) := by unfold pick; rw [List.eraseIdx_eq_take_drop_succ, List.eraseIdx_eq_take_drop_succ, List.map_append, List.map_take, List.map_drop]
  have hsub : (s.eraseIdx i).Sublist s := List.eraseIdx_sublist s i
  rw [e, ← sub_pick a (fun k hk => (ix_pw.1 h.1).1 k (hsub.subset hk))] at hc
  have hg : Good n (sub a left) (s.eraseIdx i) := ⟨ix_sub hf.1.1 hsub, hc⟩
  have hlen : (s.eraseIdx i).length = s.length - 1 := List.length_eraseIdx_of_lt (by rw [pick_len he hl hs] at hi; exact hi)
  have h0 := h.2.1
  rcases hf.2 _ hg with h1 | h1 <;> omega
theorem pick_mi : miB (n : Int) a (pick left s) = true := by
  have hg := pick_good he hl hs
  refine miB_true ?_ fun i hi => ?_
  · unfold isB
    rw [decide_eq_true ⟨he, hg.1⟩, Int.toNat_natCast, hg.2]; rfl
  · rw [Int.toNat_natCast]; exact pick_min he hl hs hi
end
section
variable {n : Nat} {a : List (Int × Int)} (he : Ev n a)
include he
theorem pk_all (w : List Int) : ∀ (f : Nat) (left : List Int), Ix a.length left → (∀ T ∈ (pkF n a w f left).1, Good n a T ∧ miB (n : Int) a T = true ∧ ∀ x ∈ T, x ∈ left) ∧ (pkF n a w f left).1.flatten.Nodup := by
  intro f
  induction f with
  | zero => intro left _; simp [pkF]
  | succ f ih =>
    intro left hl
    cases hs : smF (sub a left) n with
    | none => rw [pkF_none hs]; simp
    | some s =>
      rw [pkF_some hs]
      obtain ⟨T, hT⟩ : ∃ T, T = pick left s := ⟨_, rfl⟩
      have g1 := pick_good he hl hs
      have g2 := pick_mi he hl hs
      have g3 : ∀ x ∈ pick left s, x ∈ left := fun x hx => pick_mem he hl hs hx
      have g4 := pick_asc he hl hs
      rw [← hT] at g1 g2 g3 g4 ⊢
      obtain ⟨i1, i2⟩ := ih (rmv left T) (rmv_ix hl T)
      refine ⟨fun U hU => ?_, ?_⟩
      · rcases List.mem_cons.1 hU with rfl | hU
        · exact ⟨g1, g2, g3⟩
        · obtain ⟨j1, j2, j3⟩ := i1 U hU
          exact ⟨j1, j2, fun x hx => (List.mem_filter.1 (j3 x hx)).1⟩
      · simp only [List.flatten_cons]
        refine List.nodup_append.2 ⟨g4.imp fun h => by omega, i2, fun x hx y hy hxy => ?_⟩
        subst hxy
        obtain ⟨U, hU, hxU⟩ := List.mem_flatten.1 hy
        have := (List.mem_filter.1 ((i1 U hU).2.2 x hxU)).2
        simp [hx] at this
end
theorem lowK_le {w T : List Int} : ∀ {k j : Nat}, j < k → lowK w T k ≤ w.getD (T.getD j 0).toNat 0 := by
  intro k
  induction k with
  | zero => intro j h; exact absurd h (Nat.not_lt_zero _)
  | succ k ih =>
    intro j h
    simp only [lowK]
    rcases Nat.lt_succ_iff_lt_or_eq.1 h with h | rfl
    · have := ih h; omega
    · omega
/-- A set with a contradictory part is contradictory. -/
theorem cy_part {n : Nat} {a : List (Int × Int)} (he : Ev n a) {s t : List Int} (hs : Ix a.length s) (ht : Ix a.length t) (h : ∀ x ∈ s, x ∈ t) (hc : cyB n (sub a s) = true) : cyB n (sub a t) = true := by
  obtain ⟨ks, u, h1, h2, h3⟩ := (cy_iff he hs).1 hc
  exact (cy_iff he ht).2 ⟨ks, u, h1, h2, fun k hk => h _ (h3 k hk)⟩
/-- What repairs has an index of each contradictory set. -/
theorem rep_hits {n : Nat} {a : List (Int × Int)} (he : Ev n a) {t P : List Int} (hP : Good n a P) (h : cyB n (sub a (nats (rsK t a.length))) = false) : ∃ x, x ∈ P ∧ x ∈ t := by
  by_cases hx : ∃ x, x ∈ P ∧ x ∈ t
  · exact hx
  · have := cy_part he hP.1 (rsK_ix t a.length) (fun x hxP => by
      have hb := (ix_pw.1 hP.1).1 x hxP
      obtain ⟨k, rfl⟩ : ∃ k : Nat, x = k := ⟨x.toNat, by omega⟩
      exact mem_nats.2 (mem_rsK.2 ⟨by omega, fun hh => hx ⟨_, hxP, hh⟩⟩)) hP.2
    rw [h] at this; cases this
/-- What repairs costs at least what the sets of the packing cost. -/
theorem pk_cost {n : Nat} {a : List (Int × Int)} {w : List Int} (he : Ev n a) (hw : ∀ i, 0 ≤ w.getD i 0) {t : List Int} (h : cyB n (sub a (nats (rsK t a.length))) = false) : ∀ (f : Nat) (left : List Int), Ix a.length left → (pkF n a w f left).2 ≤ sumK w (fun i => decide ((i : Int) ∈ t) && decide ((i : Int) ∈ left)) a.length := by
  intro f
  induction f with
  | zero => intro left _; exact sumK_nonneg fun i _ => hw i
  | succ f ih =>
    intro left hl
    cases hs : smF (sub a left) n with
    | none => rw [pkF_none hs]; exact sumK_nonneg fun i _ => hw i
    | some s =>
      rw [pkF_some hs]
      have g1 := pick_good he hl hs
      have g3 : ∀ x ∈ pick left s, x ∈ left := fun x hx => pick_mem he hl hs hx
      obtain ⟨T, hT⟩ : ∃ T, T = pick left s := ⟨_, rfl⟩
      rw [← hT] at g1 g3 ⊢
      have hi := ih (rmv left T) (rmv_ix hl T)
      obtain ⟨x, x1, x2⟩ := rep_hits he g1 h
      have hb := (ix_pw.1 g1.1).1 x x1
      obtain ⟨k, rfl⟩ : ∃ k : Nat, x = k := ⟨x.toNat, by omega⟩
      obtain ⟨j, hj, ej⟩ := List.getElem_of_mem x1
      have hlo := lowK_le (w := w) (T := T) hj
      have ej2 : T.getD j 0 = (k : Int) := by simp [List.getD, hj, ej]
      rw [ej2, Int.toNat_natCast] at hlo
      have h1 := sumK_one_le (w := w) (P := fun i => decide ((i : Int) ∈ t) && decide ((i : Int) ∈ T)) (k := a.length) (j := k) (fun i _ => hw i) (by omega) (by simp [x1, x2])
      have h2 := sumK_or (w := w) (P := fun i => decide ((i : Int) ∈ t) && decide ((i : Int) ∈ T)) (Q := fun i => decide ((i : Int) ∈ t) && decide ((i : Int) ∈ rmv left T)) (k := a.length) (fun i _ hh => by
        have e1 := hh.1
        have e2 := hh.2
        simp only [Bool.and_eq_true, decide_eq_true_eq] at e1 e2
        have := (List.mem_filter.1 e2.2).2
        simp [e1.2] at this)
      have h3 : sumK w (fun i => (decide ((i : Int) ∈ t) && decide ((i : Int) ∈ T)) || (decide ((i : Int) ∈ t) && decide ((i : Int) ∈ rmv left T))) a.length = sumK w (fun i => decide ((i : Int) ∈ t) && decide ((i : Int) ∈ left)) a.length := sumK_congr fun i _ => by
        rw [Bool.eq_iff_iff]
        simp only [Bool.or_eq_true, Bool.and_eq_true, decide_eq_true_eq, rmv, List.mem_filter, Bool.not_eq_true', decide_eq_false_iff_not]
        by_cases hT2 : (i : Int) ∈ T
        · have := g3 _ hT2
          simp_all
        · simp_all
      simp only
      omega
theorem pk_cost_set {n : Nat} {a : List (Int × Int)} {w : List Int} (he : Ev n a) (hw : ∀ i, 0 ≤ w.getD i 0) {t : List Int} (ht : Ix a.length t) (h : cyB n (sub a (nats (rsK t a.length))) = false) (f : Nat) {left : List Int} (hl : Ix a.length left) : (pkF n a w f left).2 ≤ csK w t t.length := by
  have h1 := pk_cost he hw h f left hl
  rw [cs_set ht]
  have h2 := sumK_sub (w := w) (P := fun i => decide ((i : Int) ∈ t) && decide ((i : Int) ∈ left)) (Q := fun i => decide ((i : Int) ∈ t)) (k := a.length) (fun i _ => hw i) (fun i _ hp => by simp only [Bool.and_eq_true] at hp; exact hp.1)
  omega
end Go.Proofs.Ytemfmnjhhdeedaa
