/- The earliest and the latest dating by raising and lowering. No condition. -/
import Derived.Test.YtcicklmlbdfneaaD11
namespace Go.Proofs.Ytcicklmlbdfneaa
open Go Go.Abs
set_option linter.unusedSimpArgs false
set_option linter.unusedVariables false
set_option maxRecDepth 20000

def sumZ (f : Nat → Int) : Nat → Int
  | 0 => 0
  | n + 1 => sumZ f n + f n
theorem sumZ_le {f g : Nat → Int} : ∀ {n : Nat}, (∀ i, i < n → f i ≤ g i) → sumZ f n ≤ sumZ g n
  | 0, _ => Int.le_refl _
  | n + 1, h => Int.add_le_add (sumZ_le fun i hi => h i (by omega)) (h n (by omega))
theorem sumZ_lt {f g : Nat → Int} : ∀ {n : Nat}, (∀ i, i < n → f i ≤ g i) → (∃ i, i < n ∧ f i < g i) → sumZ f n < sumZ g n
  | 0, _, ⟨i, hi, _⟩ => absurd hi (Nat.not_lt_zero _)
  | n + 1, h, ⟨i, hi, hlt⟩ => by
    unfold sumZ
    by_cases h1 : i = n
    · subst h1
      have := sumZ_le (n := i) fun j hj => h j (by omega)
      omega
    · have := sumZ_lt (n := n) (fun j hj => h j (by omega)) ⟨i, by omega, hlt⟩
      have := h n (by omega)
      omega
theorem sumZ_nn {f : Nat → Int} : ∀ {n : Nat}, (∀ i, i < n → 0 ≤ f i) → 0 ≤ sumZ f n
  | 0, _ => Int.le_refl _
  | n + 1, h => Int.add_nonneg (sumZ_nn fun i hi => h i (by omega)) (h n (by omega))
theorem getD_set (xs : List Int) (j i : Nat) (v : Int) (hj : j < xs.length) : (xs.set j v).getD i 0 = if i = j then v else xs.getD i 0 := by
  simp only [List.getD, List.getElem?_set]
  by_cases h : j = i
  · subst h; simp [hj]
  · rw [if_neg h, if_neg (fun e => h e.symm)]

/-- Below every dating. -/
def LoS (c : Cr) (ts hs : List Int) : Prop := ts.length = c.ty.length ∧ hs.length = c.ho.length ∧ (∀ t h, DT c t h → (∀ i, i < c.ty.length → ts.getD i 0 ≤ t.getD i 0) ∧ ∀ i, i < c.ho.length → hs.getD i 0 ≤ h.getD i 0) ∧
  (∀ i, i < c.ty.length → (c.ty.getD i (0, 0)).1 ≤ ts.getD i 0) ∧ ∀ i, i < c.ho.length → (c.ho.getD i dH).cl.1 ≤ hs.getD i 0
def t0 (c : Cr) : List Int := c.ty.map Prod.fst
def h0 (c : Cr) : List Int := c.ho.map fun x => x.cl.1
theorem t0_get (c : Cr) {i : Nat} (hi : i < c.ty.length) : (t0 c).getD i 0 = (c.ty.getD i (0, 0)).1 := by simp [t0, List.getD, hi]
theorem h0_get (c : Cr) {i : Nat} (hi : i < c.ho.length) : (h0 c).getD i 0 = (c.ho.getD i dH).cl.1 := by simp [h0, List.getD, hi]
theorem LoS.init (c : Cr) : LoS c (t0 c) (h0 c) :=
  ⟨by simp [t0], by simp [h0], fun t h hd => ⟨fun i hi => by rw [t0_get c hi]; exact (hd.2.2.2.1 i hi).1, fun i hi => by rw [h0_get c hi]; exact (hd.2.2.2.2.1 i hi).1.1⟩,
    fun i hi => by rw [t0_get c hi]; exact Int.le_refl _, fun i hi => by rw [h0_get c hi]; exact Int.le_refl _⟩
theorem LoS.gap {c : Cr} {ts hs : List Int} (hv : VC c) (k : LoS c ts hs) {i : Nat} (hi : i < c.ga.length) : LoS c (ts.set ((c.ga.getD i (0, 0, 0)).1 - 1).toNat (max (ts.getD ((c.ga.getD i (0, 0, 0)).1 - 1).toNat 0) (ts.getD ((c.ga.getD i (0, 0, 0)).2.1 - 1).toNat 0 - (c.ga.getD i (0, 0, 0)).2.2))) hs := by
  obtain ⟨k1, k2, k3, k4, k5⟩ := k
  have hg := hv.2.2.2 i hi
  unfold gOK at hg
  have hd6 : ∀ t h, DT c t h → _ := fun t h hd => hd.2.2.2.2.2 i hi
  generalize c.ga.getD i (0, 0, 0) = g at *
  have n1 : (g.1 - 1).toNat < c.ty.length := by omega
  have n2 : (g.2.1 - 1).toNat < c.ty.length := by omega
  refine ⟨by simpa using k1, k2, fun t h hd => ⟨fun a ha => ?_, (k3 t h hd).2⟩, fun a ha => ?_, k5⟩
  · rw [getD_set _ _ _ _ (by omega)]
    have e1 := (k3 t h hd).1
    split
    · rename_i he; subst he
      have e2 := e1 _ n1
      have e3 := e1 _ n2
      have e4 := hd6 t h hd
      omega
    · exact e1 a ha
  · rw [getD_set _ _ _ _ (by omega)]
    have e1 := k4 a ha
    split
    · rename_i he; subst he; omega
    · exact e1
theorem LoS.coin {c : Cr} {ts hs : List Int} (hv : VC c) (k : LoS c ts hs) {i j : Nat} (hi : i < c.ho.length) (hj : j < (c.ho.getD i dH).coins.length) : LoS c ts (hs.set i (max (hs.getD i 0) (ts.getD (((c.ho.getD i dH).coins.getD j (0, 0)).1 - 1).toNat 0))) := by
  obtain ⟨k1, k2, k3, k4, k5⟩ := k
  have hkey := vc_coin hv hi hj
  have hd5 : ∀ t h, DT c t h → _ := fun t h hd => (hd.2.2.2.2.1 i hi).2 j hj
  generalize ((c.ho.getD i dH).coins.getD j (0, 0)).1 = key at *
  have n1 : (key - 1).toNat < c.ty.length := by omega
  refine ⟨k1, by simpa using k2, fun t h hd => ⟨(k3 t h hd).1, fun a ha => ?_⟩, k4, fun a ha => ?_⟩
  · rw [getD_set _ _ _ _ (by omega)]
    have e1 := (k3 t h hd).2
    split
    · rename_i he; subst he
      have e2 := e1 a hi
      have e3 := (k3 t h hd).1 _ n1
      have e4 := hd5 t h hd
      omega
    · exact e1 a ha
  · rw [getD_set _ _ _ _ (by omega)]
    have e1 := k5 a ha
    split
    · rename_i he; subst he; omega
    · exact e1
theorem LoS.done {c : Cr} {ts hs : List Int} (k : LoS c ts hs) (hd : DT c ts hs) : Ok c ∧ ts = loT c ∧ hs = loH c := by
  obtain ⟨o, b1, b2⟩ := dt_between hd
  obtain ⟨e1, e2⟩ := k.2.2.1 _ _ (ends_dt hd.1 o).1
  have l1 := (ends_dt hd.1 o).1.2.1
  have l2 := (ends_dt hd.1 o).1.2.2.1
  refine ⟨o, getD_ext (by rw [l1, k.1]) fun i hi => ?_, getD_ext (by rw [l2, k.2.1]) fun i hi => ?_⟩
  · have h1 := e1 i (by rw [← k.1]; exact hi)
    have h2 := (b1 i (by rw [← k.1]; exact hi)).1
    omega
  · have h1 := e2 i (by rw [← k.2.1]; exact hi)
    have h2 := (b2 i (by rw [← k.2.1]; exact hi)).1
    omega

def gapOK (c : Cr) (ts : List Int) (i : Nat) : Prop := ts.getD ((c.ga.getD i (0, 0, 0)).2.1 - 1).toNat 0 - ts.getD ((c.ga.getD i (0, 0, 0)).1 - 1).toNat 0 ≤ (c.ga.getD i (0, 0, 0)).2.2
def coinOK (c : Cr) (ts hs : List Int) (i k : Nat) : Prop := ts.getD (((c.ho.getD i dH).coins.getD k (0, 0)).1 - 1).toNat 0 ≤ hs.getD i 0
/-- What is left to raise. -/
def mz (c : Cr) (ts hs : List Int) : Int := sumZ (fun i => (c.ty.getD i (0, 0)).2 - ts.getD i 0) c.ty.length + sumZ (fun i => (c.ho.getD i dH).cl.2 - hs.getD i 0) c.ho.length
theorem mz_less {c : Cr} {ts hs ts0 hs0 : List Int} (l1 : ts.length = c.ty.length) (l2 : hs.length = c.ho.length) (l3 : ts0.length = c.ty.length) (l4 : hs0.length = c.ho.length)
    (g1 : ∀ i, i < c.ty.length → ts0.getD i 0 ≤ ts.getD i 0) (g2 : ∀ i, i < c.ho.length → hs0.getD i 0 ≤ hs.getD i 0)
    (u1 : ∀ i, i < c.ty.length → ts.getD i 0 ≤ (c.ty.getD i (0, 0)).2) (u2 : ∀ i, i < c.ho.length → hs.getD i 0 ≤ (c.ho.getD i dH).cl.2) (hne : ¬ (ts = ts0 ∧ hs = hs0)) : (mz c ts hs).toNat < (mz c ts0 hs0).toNat := by
  have p1 : 0 ≤ sumZ (fun i => (c.ty.getD i (0, 0)).2 - ts.getD i 0) c.ty.length := sumZ_nn fun i hi => by have := u1 i hi; omega
  have p2 : 0 ≤ sumZ (fun i => (c.ho.getD i dH).cl.2 - hs.getD i 0) c.ho.length := sumZ_nn fun i hi => by have := u2 i hi; omega
  have q1 : sumZ (fun i => (c.ty.getD i (0, 0)).2 - ts.getD i 0) c.ty.length ≤ sumZ (fun i => (c.ty.getD i (0, 0)).2 - ts0.getD i 0) c.ty.length := sumZ_le fun i hi => by have := g1 i hi; omega
  have q2 : sumZ (fun i => (c.ho.getD i dH).cl.2 - hs.getD i 0) c.ho.length ≤ sumZ (fun i => (c.ho.getD i dH).cl.2 - hs0.getD i 0) c.ho.length := sumZ_le fun i hi => by have := g2 i hi; omega
  have hlt : mz c ts hs < mz c ts0 hs0 := by
    unfold mz
    by_cases e1 : ∃ i, i < c.ty.length ∧ ts0.getD i 0 < ts.getD i 0
    · obtain ⟨i, hi, hlt⟩ := e1
      have := sumZ_lt (f := fun i => (c.ty.getD i (0, 0)).2 - ts.getD i 0) (g := fun i => (c.ty.getD i (0, 0)).2 - ts0.getD i 0) (n := c.ty.length) (fun i hi => by have := g1 i hi; omega) ⟨i, hi, by omega⟩
      omega
    · by_cases e2 : ∃ i, i < c.ho.length ∧ hs0.getD i 0 < hs.getD i 0
      · obtain ⟨i, hi, hlt⟩ := e2
        have := sumZ_lt (f := fun i => (c.ho.getD i dH).cl.2 - hs.getD i 0) (g := fun i => (c.ho.getD i dH).cl.2 - hs0.getD i 0) (n := c.ho.length) (fun i hi => by have := g2 i hi; omega) ⟨i, hi, by omega⟩
        omega
      · exfalso
        refine hne ⟨getD_ext (by omega) fun i hi => ?_, getD_ext (by omega) fun i hi => ?_⟩
        · have := g1 i (by omega)
          have : ¬ ts0.getD i 0 < ts.getD i 0 := fun hh => e1 ⟨i, by omega, hh⟩
          omega
        · have := g2 i (by omega)
          have : ¬ hs0.getD i 0 < hs.getD i 0 := fun hh => e2 ⟨i, by omega, hh⟩
          omega
  unfold mz at hlt ⊢
  omega
end Go.Proofs.Ytcicklmlbdfneaa
