/- Plain facts: a packing without a set. No condition. -/
import Derived.Test.YtemfmnjhhdeedaaD30
namespace Go.Proofs.Ytemfmnjhhdeedaa
open Go Go.Abs
set_option linter.unusedSimpArgs false
set_option linter.unusedVariables false
set_option maxRecDepth 20000

theorem sub_all (a : List (Int × Int)) : sub a (nats (List.range a.length)) = a := by
  apply List.ext_getElem
  · simp [sub, nats]
  · intro i h1 h2
    simp [sub, nats, List.getD, h2]
theorem lowK_pos {w T : List Int} (h : ∀ j, j < T.length → 1 ≤ w.getD (T.getD j 0).toNat 0) : ∀ k, k ≤ T.length → 1 ≤ lowK w T k := by
  intro k
  induction k with
  | zero => intro _; simp [lowK]
  | succ k ih =>
    intro hk
    have h1 := ih (by omega)
    have h2 := h k (by omega)
    simp only [lowK]
    omega
theorem pk_nonneg {n : Nat} {a : List (Int × Int)} {w : List Int} (hw : Wl w) : ∀ (f : Nat) (left : List Int), 0 ≤ (pkF n a w f left).2 := by
  intro f
  induction f with
  | zero => intro left; simp [pkF]
  | succ f ih =>
    intro left
    cases hs : smF (sub a left) n with
    | none => rw [pkF_none hs]; simp
    | some s =>
      rw [pkF_some hs]
      have h1 := lowK_bd hw (pick left s) (pick left s).length
      have h2 := ih (rmv left (pick left s))
      simp only
      omega
theorem pk_some_pos {n : Nat} {a : List (Int × Int)} {w : List Int} (he : Ev n a) (hw : Wl w) (hwl : w.length = a.length) {f : Nat} {left s : List Int} (hl : Ix a.length left) (hf : left.length ≤ f) (hs : smF (sub a left) n = some s) : 1 ≤ (pkF n a w f left).2 := by
  obtain ⟨p1, p2, p3⟩ := pk_ix he hl hs
  obtain ⟨f, rfl⟩ : ∃ g, f = g + 1 := ⟨f - 1, by
    have := ix_len p1
    omega⟩
  rw [pkF_some hs]
  have h2 := pk_nonneg (n := n) (a := a) hw f (rmv left (pick left s))
  have h1 := lowK_pos (w := w) (T := pick left s) (fun j hj => by
    have h3 := (ix_pw.1 (pick_ix he hl hs)).1 _ (mem_getD (d := 0) hj)
    have h4 := hw ((pick left s).getD j 0).toNat (by omega)
    omega) (pick left s).length (Nat.le_refl _)
  simp only
  omega
theorem pk_zero {n : Nat} {a : List (Int × Int)} {w : List Int} (he : Ev n a) (hw : Wl w) (hwl : w.length = a.length) : (pkF n a w a.length (nats (List.range a.length))).2 = 0 ↔ cyB n a = false := by
  have hix := all_ix a.length
  have hsa := sub_all a
  cases hs : smF (sub a (nats (List.range a.length))) n with
  | none =>
    rw [pkF_none hs]
    rw [hsa] at hs
    refine ⟨fun _ => Bool.eq_false_iff.2 fun hc => ?_, fun _ => rfl⟩
    exact smF_none he hs _ ⟨hix, by rw [hsa]; exact hc⟩
  | some s =>
    have h1 := pk_some_pos (w := w) he hw hwl (f := a.length) hix (by rw [allI_len]; exact Nat.le_refl _) hs
    rw [hsa] at hs
    have hg := (smF_fst he hs).1
    have h2 := cy_part he hg.1 hix (fun x hx => by
      have := (ix_pw.1 hg.1).1 x hx
      obtain ⟨k, rfl⟩ : ∃ k : Nat, x = k := ⟨x.toNat, by omega⟩
      exact mem_nats.2 (List.mem_range.2 (by omega))) hg.2
    rw [hsa] at h2
    exact ⟨fun h => by omega, fun h => by rw [h] at h2; cases h2⟩
theorem rsK_nil (k : Nat) : rsK [] k = List.range k := by simp [rsK]
theorem tot_zero {n : Nat} {a : List (Int × Int)} {w : List Int} (h : chkE n a w = 0) : tot n a w = 0 ↔ cyB n a = false := by
  have hok := chk_ok.1 h
  have he := hok.2.2.1
  have hw1 := okc_w1 hok
  obtain ⟨nl, q, e1, q1⟩ := leV_yes h
  have hb := (sumK_nonneg (w := w) (P := bB a q) (k := a.length) hw1.ok)
  have hbc : bc a w q = sumK w (bB a q) a.length := rfl
  have hqt : bc a w q = tot n a w := q1.2.2
  constructor
  · intro h0
    have hno : ∀ i, i < a.length → bB a q i = true → (i : Int) ∈ ([] : List Int) := fun i hi hh => by
      have h1 := sumK_one_le (w := w) (P := bB a q) (k := a.length) (j := i) hw1.ok hi hh
      have h2 := hok.2.2.2.2 i (by have := hok.2.2.2.1; omega)
      omega
    have := bl_repairs he q1.1 q1.2.1 hno
    rw [rsK_nil, sub_all] at this
    exact this
  · intro hc
    have hr : rpB n a w [] = true := rpB_iff.2 ⟨⟨hok, fun i hi => absurd hi (Nat.not_lt_zero _)⟩, by rw [rsK_nil, sub_all]; exact hc⟩
    have := rp_ge hok hr
    simp only [csK, List.length_nil] at this
    omega
end Go.Proofs.Ytemfmnjhhdeedaa
