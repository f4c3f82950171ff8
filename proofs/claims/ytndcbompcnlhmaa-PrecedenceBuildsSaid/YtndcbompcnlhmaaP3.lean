/- Plain facts: what precedes what, cycles, pairs of Ids. No condition. -/
import Derived.Test.YtndcbompcnlhmaaD8
import Derived.Test.YtndcbompcnlhmaaW0
namespace Go.Proofs.Ytndcbompcnlhmaa
open Go Go.Abs
set_option linter.unusedSimpArgs false
set_option linter.unusedVariables false

/-- A piece leads from one place to another. -/
def EP (P : List T3) (i j : Nat) : Prop := ∃ p ∈ P, p.2.1 = (i : Int) ∧ p.2.2 = (j : Int)
theorem ck_ok {l : List Spm} (h : ckE l = 0) : allOK l ∧ uniqK l l.length := by
  unfold ckE at h
  split at h
  · cases h
  · split at h
    · split at h
      · exact ⟨by assumption, by assumption⟩
      · cases h
    · cases h
theorem id_inj {l : List Spm} (h : ckE l = 0) {a b : Nat} (ha : a < l.length) (hb : b < l.length) (e : (l.getD a dS).id = (l.getD b dS).id) : a = b := by
  have hu := (ck_ok h).2
  rcases Nat.lt_trichotomy a b with h1 | h1 | h1
  · exact absurd e.symm (hu b hb a h1)
  · exact h1
  · exact absurd e (hu a ha b h1)
theorem plc_id {l : List Spm} (h : ckE l = 0) {a : Nat} (ha : a < l.length) : plc l (l.getD a dS).id = a := by
  unfold plc
  exact findI_at (p := fun i => decide ((l.getD i dS).id = (l.getD a dS).id)) (by simp) (fun j hj => decide_eq_false fun hh => by have := id_inj h (by omega) ha hh; omega) ha
theorem plc_some {l : List Spm} {x : Int} (h : 0 ≤ plc l x) : (l.getD (plc l x).toNat dS).id = x := by
  have := (findI_lt (show 0 ≤ plc l x from h)).2.1
  exact of_decide_eq_true this
theorem plc_nat {l : List Spm} {x : Int} (h : 0 ≤ plc l x) : ∃ a : Nat, plc l x = a ∧ a < l.length ∧ (l.getD a dS).id = x := by
  have h1 := plc_lt h
  have h2 := plc_some h
  exact ⟨(plc l x).toNat, by omega, by omega, h2⟩
/-- Evidence without error. -/
theorem ga_iff {l : List Spm} {c : List (Int × Int)} : gaE l c = 0 ↔ ckE l = 0 ∧ l.length ≤ 24 ∧ c.length ≤ 64 ∧ ∀ q ∈ c, (0 ≤ plc l q.1 ∧ 0 ≤ plc l q.2) ∧ plc l q.1 ≠ plc l q.2 := by
  constructor
  · intro h
    obtain ⟨g1, g2, g3, g4, g5, g6, g7⟩ := ga_ok h
    exact ⟨g2, g1, g6, g7⟩
  · rintro ⟨h1, h2, h3, h4⟩
    unfold gaE
    rw [if_pos h1, if_neg (by omega), if_neg, if_neg]
    · intro hh
      obtain ⟨q, hq, hd⟩ := List.any_eq_true.1 hh
      exact (h4 q hq).2 (of_decide_eq_true hd)
    · intro hh
      obtain ⟨q, hq, hd⟩ := List.any_eq_true.1 hh
      have := of_decide_eq_true hd
      have := (h4 q hq).1
      omega
theorem mem_nat {α : Type} {a : List α} {d x : α} : x ∈ a ↔ ∃ i, i < a.length ∧ a.getD i d = x := by
  constructor
  · intro h
    obtain ⟨i, hi, e⟩ := List.getElem_of_mem h
    exact ⟨i, hi, by simp [List.getD, hi, e]⟩
  · rintro ⟨i, hi, rfl⟩; exact mem_getD hi
section
variable {l : List Spm} {c : List (Int × Int)} (h : gaE l c = 0)
include h
theorem ep_lt : ∀ i j, EP (pcs l c) i j → i < l.length ∧ j < l.length := by
  rintro i j ⟨p, hp, h1, h2⟩
  have := (ga_ok h).2.2.1 p hp
  omega
theorem be_ep {i j : Nat} : BE (nxt l.length (arcL (pcs l c)) (arcL (pcs l c)).length) i j ↔ EP (pcs l c) i j := by
  have h1 := nxt_bt (n := l.length) (a := arcL (pcs l c)) (fun i hi => (dg_arcL h).arc i hi) (arcL (pcs l c)).length (Nat.le_refl _) i j
  unfold BE
  rw [h1]
  have h2 : (∃ q, q < (arcL (pcs l c)).length ∧ (arcL (pcs l c)).getD q (0, 0) = ((i : Int), (j : Int))) ↔ ((i : Int), (j : Int)) ∈ arcL (pcs l c) := mem_nat.symm
  rw [h2, mem_arcL]
  constructor
  · rintro ⟨p, hp, e⟩; exact ⟨p, hp, congrArg Prod.fst e, congrArg Prod.snd e⟩
  · rintro ⟨p, hp, e1, e2⟩; exact ⟨p, hp, Prod.ext e1 e2⟩
theorem reach_iff {i j : Nat} (hi : i < l.length) : bt (posR l.length (arcL (pcs l c))) i j = true ↔ Way (EP (pcs l c)) i j := by
  unfold posR
  rw [wr_way (nxt_len _ _ _) (fun i j hb => ep_lt h i j ((be_ep h).1 hb)) hi]
  exact ⟨Way.mono fun _ _ hb => (be_ep h).1 hb, Way.mono fun _ _ hb => (be_ep h).2 hb⟩
theorem way_lt {i j : Nat} (hw : Way (EP (pcs l c)) i j) : i < l.length ∧ j < l.length := by
  obtain ⟨u, hu⟩ := hw.first
  obtain ⟨v, hv, _⟩ := hw.last
  exact ⟨(ep_lt h _ _ hu).1, (ep_lt h _ _ hv).2⟩
theorem acB_iff : acB l c = true ↔ ∀ v, ¬ Way (EP (pcs l c)) v v := by
  have key : ∀ m, acI (posR l.length (arcL (pcs l c))) m = true ↔ ∀ i, i < m → bt (posR l.length (arcL (pcs l c))) i i = false := by
    intro m
    induction m with
    | zero => simp [acI]
    | succ m ih =>
      rw [acI, Bool.and_eq_true, ih, Bool.not_eq_true']
      constructor
      · rintro ⟨h1, h2⟩ i hi
        rcases Nat.lt_succ_iff_lt_or_eq.1 hi with hi | rfl
        · exact h1 i hi
        · exact h2
      · intro h1; exact ⟨fun i hi => h1 i (by omega), h1 m (by omega)⟩
  unfold acB
  rw [key]
  constructor
  · intro h1 v hw
    have hv := (way_lt h hw).1
    have := (reach_iff h hv).2 hw
    rw [h1 v hv] at this
    cases this
  · intro h1 i hi
    exact Bool.eq_false_iff.2 fun hh => h1 i ((reach_iff h hi).1 hh)
theorem mem_clI {x : Int × Int} : x ∈ clI l c ↔ ∃ a j : Nat, a ≠ j ∧ Way (EP (pcs l c)) a j ∧ x = ((a : Int), (j : Int)) := by
  unfold clI
  rw [mem_lsI, posR_len]
  constructor
  · rintro ⟨a, j, h1, h2, h3, h4, h5⟩; exact ⟨a, j, h3, (reach_iff h h1).1 h4, h5⟩
  · rintro ⟨a, j, h1, h2, h3⟩
    have := way_lt h h2
    exact ⟨a, j, this.1, this.2, h1, (reach_iff h this.1).2 h2, h3⟩
theorem mem_clL {x y : Int} : (x, y) ∈ clL l c ↔ ∃ a j : Nat, a ≠ j ∧ Way (EP (pcs l c)) a j ∧ (l.getD a dS).id = x ∧ (l.getD j dS).id = y := by
  unfold clL
  rw [(sP_perm cf2 _).mem_iff, List.mem_map]
  constructor
  · rintro ⟨z, hz, e⟩
    obtain ⟨a, j, h1, h2, rfl⟩ := (mem_clI h).1 hz
    unfold idP idA at e
    simp only [Int.toNat_natCast, Prod.mk.injEq] at e
    exact ⟨a, j, h1, h2, e⟩
  · rintro ⟨a, j, h1, h2, rfl, rfl⟩
    refine ⟨_, (mem_clI h).2 ⟨a, j, h1, h2, rfl⟩, ?_⟩
    simp [idP, idA]
end
/-- A way over one more piece. -/
theorem way_more {E F : Nat → Nat → Prop} {u v : Nat} (hF : ∀ i j, F i j ↔ E i j ∨ (i = u ∧ j = v)) {i j : Nat} (hw : Way F i j) : Way E i j ∨ ((i = u ∨ Way E i u) ∧ (v = j ∨ Way E v j)) := by
  induction hw with
  | one h =>
    rcases (hF _ _).1 h with h | ⟨rfl, rfl⟩
    · exact .inl (.one h)
    · exact .inr ⟨.inl rfl, .inl rfl⟩
  | step h _ ih =>
    rcases (hF _ _).1 h with h | ⟨rfl, rfl⟩
    · rcases ih with ih | ⟨h1, h2⟩
      · exact .inl (.step h ih)
      · refine .inr ⟨?_, h2⟩
        rcases h1 with rfl | h1
        · exact .inr (.one h)
        · exact .inr (.step h h1)
    · rcases ih with ih | ⟨h1, h2⟩
      · exact .inr ⟨.inl rfl, .inr ih⟩
      · exact .inr ⟨.inl rfl, h2⟩
/-- One more claim. -/
theorem ac_more {l : List Spm} {c : List (Int × Int)} {x : Int × Int} (h : gaE l (c ++ [x]) = 0) : gaE l c = 0 ∧ (acB l (c ++ [x]) = (acB l c && !decide ((x.2, x.1) ∈ clL l c))) := by
  obtain ⟨h1, h2, h3, h4⟩ := ga_iff.1 h
  have hc : gaE l c = 0 := ga_iff.2 ⟨h1, h2, by simp at h3; omega, fun q hq => h4 q (by simp [hq])⟩
  obtain ⟨⟨hx1, hx2⟩, hx3⟩ := h4 x (by simp)
  obtain ⟨u, eu, hu, iu⟩ := plc_nat hx1
  obtain ⟨v, ev, hv, iv⟩ := plc_nat hx2
  have huv : u ≠ v := fun hh => hx3 (by rw [eu, ev, hh])
  have hF : ∀ i j, EP (pcs l (c ++ [x])) i j ↔ EP (pcs l c) i j ∨ (i = u ∧ j = v) := fun i j => by
    have e : pcs l (c ++ [x]) = pcs l c ++ [(2, (u : Int), (v : Int))] := by unfold pcs; rw [List.map_append, ← List.append_assoc]; simp [clP, eu, ev]
    unfold EP
    rw [e]
    constructor
    · rintro ⟨p, hp, e1, e2⟩
      rcases List.mem_append.1 hp with hp | hp
      · exact .inl ⟨p, hp, e1, e2⟩
      · simp at hp; subst hp; simp only at e1 e2
        exact .inr ⟨by omega, by omega⟩
    · rintro (⟨p, hp, e1, e2⟩ | ⟨rfl, rfl⟩)
      · exact ⟨p, List.mem_append.2 (.inl hp), e1, e2⟩
      · exact ⟨_, List.mem_append.2 (.inr (List.mem_singleton.2 rfl)), rfl, rfl⟩
  refine ⟨hc, ?_⟩
  have hmem : (x.2, x.1) ∈ clL l c ↔ Way (EP (pcs l c)) v u := by
    rw [mem_clL hc]
    constructor
    · rintro ⟨a, j, a1, a2, a3, a4⟩
      have hl := way_lt hc a2
      have e1 := id_inj h1 hl.1 hv (a3.trans iv.symm)
      have e2 := id_inj h1 hl.2 hu (a4.trans iu.symm)
      subst e1; subst e2
      exact a2
    · intro hw; exact ⟨v, u, fun hh => huv hh.symm, hw, iv, iu⟩
  rw [Bool.eq_iff_iff, acB_iff h, Bool.and_eq_true, acB_iff hc, Bool.not_eq_true', decide_eq_false_iff_not, hmem]
  constructor
  · intro k
    refine ⟨fun w hw => k w (hw.mono fun i j e => (hF i j).2 (.inl e)), fun hw => k u ?_⟩
    exact .step ((hF _ _).2 (.inr ⟨rfl, rfl⟩)) (hw.mono fun i j e => (hF i j).2 (.inl e))
  · rintro ⟨k1, k2⟩ w hw
    rcases way_more hF hw with hw | ⟨a1, a2⟩
    · exact k1 w hw
    · rcases a1 with rfl | a1 <;> rcases a2 with rfl | a2
      · exact huv rfl
      · exact k2 a2
      · exact k2 a1
      · exact k2 (a2.trans a1)
end Go.Proofs.Ytndcbompcnlhmaa
