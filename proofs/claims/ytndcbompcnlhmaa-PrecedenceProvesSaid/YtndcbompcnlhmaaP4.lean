/- Plain facts: when a chain exists, and what it is. No condition. -/
import Derived.Test.YtndcbompcnlhmaaP3
import Derived.Test.YtndcbompcnlhmaaD7
namespace Go.Proofs.Ytndcbompcnlhmaa
open Go Go.Abs
set_option linter.unusedSimpArgs false
set_option linter.unusedVariables false
set_option linter.unusedSectionVars false

section
variable {n : Nat} {P : List T3} {ib : Nat} {f : List Int} (hP : Pc n P) (hD : Dst n P (ib : Int) f) (hb : ib < n)
include hP hD hb
theorem far_back : ∀ (k : Nat) (v : Nat), v < n → f.getD v 0 = k → v = ib ∨ Way (EP P) v ib := by
  intro k
  induction k with
  | zero =>
    intro v hv h
    have := hD.st.zer v hv (by simpa using h)
    exact .inl (by omega)
  | succ k ih =>
    intro v hv h
    obtain ⟨p, hp, e1, e2⟩ := hD.st.wit v hv (by omega)
    have hq := hP p hp
    have h2 := ih p.2.2.toNat (by omega) (by show fv f p.2.2 = k; omega)
    have he : EP P v p.2.2.toNat := ⟨p, hp, e1, by omega⟩
    rcases h2 with h2 | h2
    · exact .inr (.one (by rw [← h2]; exact he))
    · exact .inr (.step he h2)
theorem far_way {v : Nat} (hv : v < n) : 0 ≤ f.getD v 0 ↔ v = ib ∨ Way (EP P) v ib := by
  have at0 : f.getD ib 0 = 0 := by have := hD.st.at0; unfold fv at this; rwa [Int.toNat_natCast] at this
  have arc : ∀ i j, EP P i j → 0 ≤ f.getD j 0 → 0 ≤ f.getD i 0 := by
    rintro i j ⟨p, hp, e1, e2⟩ hj
    have := (hD.arc p hp (by unfold fv; rw [e2, Int.toNat_natCast]; exact hj)).1
    unfold fv at this
    rwa [e1, Int.toNat_natCast] at this
  constructor
  · intro h; exact far_back hP hD hb (f.getD v 0).toNat v hv (by omega)
  · rintro (rfl | hw)
    · omega
    · have key : ∀ i j, Way (EP P) i j → 0 ≤ f.getD j 0 → 0 ≤ f.getD i 0 := by
        intro i j hw
        induction hw with
        | one h => exact arc _ _ h
        | step h _ ih => exact fun hj => arc _ _ h (ih hj)
      exact key _ _ hw (by omega)
end
/-- A chain of pieces. -/
def Lk (l : List Spm) (P : List T3) : Int → List T3 → Int → Prop
  | at_, [], g => at_ = g
  | at_, e :: o, g => ∃ p ∈ P, p.2.1 = at_ ∧ e = (p.1, idA l at_, idA l p.2.2) ∧ Lk l P p.2.2 o g
theorem wy_lk {l : List Spm} {f : List Int} {P : List T3} {g : Int} : ∀ {k : Nat} {at_ : Int} {o : List T3}, wyF l f P g k at_ = some o → o ≠ [] ∧ Lk l P at_ o g := by
  intro k
  induction k with
  | zero => intro at_ o h; cases h
  | succ k ih =>
    intro at_ o h
    rw [wyF] at h
    cases hb : bst l f P at_ P.length with
    | none => rw [hb] at h; cases h
    | some p =>
      rw [hb] at h
      simp only at h
      have hq := (bst_spec (l := l) (f := f) (P := P) (at_ := at_) (j := P.length) (Nat.le_refl _)).1 p hb
      split at h
      · rename_i hg
        cases h
        exact ⟨by simp, p, hq.1, hq.2.1, rfl, hg⟩
      · cases hw : wyF l f P g k p.2.2 with
        | none => rw [hw] at h; cases h
        | some o' =>
          rw [hw] at h
          cases h
          exact ⟨by simp, p, hq.1, hq.2.1, rfl, (ih hw).2⟩
section
variable {l : List Spm} {P : List T3} {ib : Nat} {f : List Int} (hP : Pc l.length P) (hD : Dst l.length P (ib : Int) f) (hb : ib < l.length)
include hP hD hb
theorem wy_ex : ∀ (k : Nat) (at_ : Int), (0 ≤ at_ ∧ at_ < l.length) → 0 < fv f at_ → fv f at_ ≤ k → ∃ o, wyF l f P ib k at_ = some o ∧ (o.length : Int) = fv f at_ := by
  intro k
  induction k with
  | zero => intro at_ hr h1 h2; omega
  | succ k ih =>
    intro at_ hr h1 h2
    obtain ⟨q, b1, b2, b3, b4⟩ := bst_dec (l := l) hP hD hr h1
    have hq := hP q b2
    rw [wyF, b1]
    simp only
    by_cases hg : q.2.2 = (ib : Int)
    · rw [if_pos hg]
      have : fv f q.2.2 = 0 := by rw [hg]; exact hD.st.at0
      exact ⟨_, rfl, by simp only [List.length_singleton]; omega⟩
    · rw [if_neg hg]
      have h3 : fv f q.2.2 ≠ 0 := fun hh => hg (by have := hD.st.zer q.2.2.toNat (by omega) hh; omega)
      obtain ⟨o, o1, o2⟩ := ih q.2.2 hq.2 (by omega) (by omega)
      rw [o1]
      exact ⟨_, rfl, by simp only [List.length_cons]; omega⟩
theorem lk_way : ∀ {o : List T3} {at_ : Nat}, o ≠ [] → Lk l P (at_ : Int) o ib → Way (EP P) at_ ib := by
  intro o
  induction o with
  | nil => intro at_ h; exact absurd rfl h
  | cons e o ih =>
    rintro at_ _ ⟨p, hp, h1, _, h3⟩
    have hq := hP p hp
    have he : EP P at_ p.2.2.toNat := ⟨p, hp, h1, by omega⟩
    cases o with
    | nil =>
      have h3 : p.2.2 = (ib : Int) := h3
      rw [h3, Int.toNat_natCast] at he
      exact .one he
    | cons e2 o2 => exact .step he (ih (by simp) (by rw [show ((p.2.2.toNat : Nat) : Int) = p.2.2 by omega]; exact h3))
theorem wy_some {ia : Nat} (ha : ia < l.length) : (wyF l f P ib (l.length + 2) ia).isSome = true ↔ Way (EP P) ia ib := by
  constructor
  · intro h
    obtain ⟨o, ho⟩ := Option.isSome_iff_exists.1 h
    obtain ⟨h1, h2⟩ := wy_lk ho
    exact lk_way hP hD hb h1 h2
  · intro hw
    obtain ⟨w, hw1, hw2⟩ : ∃ w, EP P ia w ∧ (w = ib ∨ Way (EP P) w ib) := by
      cases hw with
      | one h => exact ⟨_, h, .inl rfl⟩
      | step h t => exact ⟨_, h, .inr t⟩
    obtain ⟨p, hp, e1, e2⟩ := hw1
    have hpr := hP p hp
    have hfw : 0 ≤ fv f p.2.2 := by
      have := (far_way hP hD hb (v := w) (by omega)).2 hw2
      unfold fv; rw [e2, Int.toNat_natCast]; exact this
    obtain ⟨s1, s2⟩ := bst_spec (l := l) (f := f) (P := P) (at_ := (ia : Int)) (j := P.length) (Nat.le_refl _)
    cases hbb : bst l f P ia P.length with
    | none =>
      obtain ⟨i, hi, e⟩ := List.getElem_of_mem hp
      have e3 : P.getD i d3 = p := by simp [List.getD, hi, e]
      exact absurd (by rw [e3]; exact hfw) (s2 hbb i hi (by rw [e3]; exact e1))
    | some q =>
      obtain ⟨k1, k2, k3, k4⟩ := s1 q hbb
      have hq := hP q k1
      rw [wyF, hbb]
      simp only
      by_cases hg : q.2.2 = (ib : Int)
      · rw [if_pos hg]; rfl
      · rw [if_neg hg]
        have h3 : fv f q.2.2 ≠ 0 := fun hh => hg (by have := hD.st.zer q.2.2.toNat (by omega) hh; omega)
        have h4 := st_bd hD.st hP (v := q.2.2.toNat) (by omega)
        obtain ⟨o, o1, o2⟩ := wy_ex hP hD hb (l.length + 1) q.2.2 hq.2 (by omega) (by unfold fv; omega)
        rw [o1]; rfl
end
/-- The error of Why. -/
def whE (l : List Spm) (c : List (Int × Int)) (a b : Int) : Int :=
  if gaE l c = 0 then
    (if plc l a < 0 ∨ plc l b < 0 then 7
    else if (wyF l (far l.length (pcs l c) (plc l b)) (pcs l c) (plc l b) (l.length + 2) (plc l a)).isSome then 0 else 7)
  else gaE l c
theorem whV_tup (l : List Spm) (c : List (Int × Int)) (a b : Int) : ∃ o : List T3, ∃ nl tl, whV l c a b = .tup [.sl nl o.length (trs o) tl, I (whE l c a b)] ∧ (whE l c a b ≠ 0 → o = []) ∧ (whE l c a b = 0 → wyF l (far l.length (pcs l c) (plc l b)) (pcs l c) (plc l b) (l.length + 2) (plc l a) = some o) := by
  unfold whV whE
  by_cases c1 : gaE l c = 0
  · rw [if_pos c1, if_pos c1]
    by_cases c2 : plc l a < 0 ∨ plc l b < 0
    · rw [if_pos c2, if_pos c2]
      exact ⟨[], true, .full, rfl, fun _ => rfl, fun h => by cases h⟩
    · rw [if_neg c2, if_neg c2]
      cases hw : wyF l (far l.length (pcs l c) (plc l b)) (pcs l c) (plc l b) (l.length + 2) (plc l a) with
      | none => exact ⟨[], true, .full, rfl, fun _ => rfl, fun h => by cases h⟩
      | some o => exact ⟨o, decide (o.length = 0), .unk, rfl, fun h => absurd rfl h, fun _ => rfl⟩
  · rw [if_neg c1, if_neg c1]
    exact ⟨[], true, .full, rfl, fun _ => rfl, fun h => absurd h c1⟩
theorem whE_iff {l : List Spm} {c : List (Int × Int)} (h : gaE l c = 0) {a b : Int} : whE l c a b = 0 ↔ ∃ i j : Nat, (l.getD i dS).id = a ∧ (l.getD j dS).id = b ∧ Way (EP (pcs l c)) i j := by
  obtain ⟨g1, g2, g3, g4, g5, g6, g7⟩ := ga_ok h
  unfold whE
  rw [if_pos h]
  by_cases c2 : plc l a < 0 ∨ plc l b < 0
  · rw [if_pos c2]
    refine ⟨fun hh => (by cases hh), ?_⟩
    rintro ⟨i, j, rfl, rfl, hw⟩
    have hl := way_lt h hw
    rw [plc_id g2 hl.1, plc_id g2 hl.2] at c2
    omega
  · rw [if_neg c2]
    obtain ⟨ia, e1, e2, e3⟩ := plc_nat (show 0 ≤ plc l a by omega)
    obtain ⟨ib, f1, f2, f3⟩ := plc_nat (show 0 ≤ plc l b by omega)
    rw [e1, f1]
    have hD := far_dst (n := l.length) (b := (ib : Int)) g3 ⟨by omega, by omega⟩
    have hs := wy_some g3 hD f2 e2
    constructor
    · intro hh
      split at hh
      · rename_i h1
        exact ⟨ia, ib, e3, f3, hs.1 h1⟩
      · cases hh
    · rintro ⟨i, j, i1, i2, hw⟩
      have hl := way_lt h hw
      have k1 := id_inj g2 hl.1 e2 (i1.trans e3.symm)
      have k2 := id_inj g2 hl.2 f2 (i2.trans f3.symm)
      subst k1; subst k2
      rw [if_pos (hs.2 hw)]
theorem ep_ne {l : List Spm} {c : List (Int × Int)} (h : gaE l c = 0) {i j : Nat} (he : EP (pcs l c) i j) : i ≠ j := by
  obtain ⟨p, hp, e1, e2⟩ := he
  have hm : ((i : Int), (j : Int)) ∈ arcL (pcs l c) := mem_arcL.2 ⟨p, hp, by rw [e1, e2]⟩
  obtain ⟨k, hk, e⟩ := (mem_nat (d := (0, 0))).1 hm
  have := ((dg_arcL h).2.2 k hk).1.2.2.2.2
  rw [e] at this
  simp only at this
  omega
/-- Contradictory evidence: two that precede one another. -/
theorem two_iff {l : List Spm} {c : List (Int × Int)} (h : gaE l c = 0) : (∀ v, ¬ Way (EP (pcs l c)) v v) ↔ ¬ ∃ x ∈ clL l c, (x.2, x.1) ∈ clL l c := by
  have g2 := (ga_ok h).2.1
  constructor
  · rintro k ⟨⟨x, y⟩, h1, h2⟩
    obtain ⟨a, j, a1, a2, a3, a4⟩ := (mem_clL h).1 h1
    obtain ⟨b, m, b1, b2, b3, b4⟩ := (mem_clL h).1 h2
    have l1 := way_lt h a2
    have l2 := way_lt h b2
    have e1 := id_inj g2 l1.1 l2.2 (a3.trans b4.symm)
    have e2 := id_inj g2 l1.2 l2.1 (a4.trans b3.symm)
    subst e1; subst e2
    exact k a (a2.trans b2)
  · intro k v hw
    have hc : ∃ w, EP (pcs l c) v w ∧ Way (EP (pcs l c)) w v := by
      cases hw with
      | one h1 => exact absurd rfl (ep_ne h h1)
      | step h1 t => exact ⟨_, h1, t⟩
    obtain ⟨w, h1, h2⟩ := hc
    have hne := ep_ne h h1
    refine k ⟨((l.getD v dS).id, (l.getD w dS).id), (mem_clL h).2 ⟨v, w, hne, .one h1, rfl, rfl⟩, (mem_clL h).2 ⟨w, v, fun hh => hne hh.symm, h2, rfl, rfl⟩⟩
end Go.Proofs.Ytndcbompcnlhmaa
