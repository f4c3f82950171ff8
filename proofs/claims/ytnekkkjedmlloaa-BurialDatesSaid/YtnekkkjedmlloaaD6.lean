/- The datings of a chronology, and their ends. No condition. -/
import Derived.Test.YtnekkkjedmlloaaD4
import Derived.Test.YtnekkkjedmlloaaD5
namespace Go.Proofs.Ytnekkkjedmlloaa
open Go Go.Abs
set_option linter.unusedSimpArgs false
set_option linter.unusedVariables false
set_option maxRecDepth 20000

/-- The bounds of the first types. -/
def tyC (c : Cr) : Nat → List (Nat × Nat × Int)
  | 0 => []
  | i + 1 => tyC c i ++ [(0, 1 + i, (c.ty.getD i (0, 0)).2), (1 + i, 0, -(c.ty.getD i (0, 0)).1)]
/-- The bounds of the first coins of a hoard at place k. -/
def coC (x : Hd) (k : Nat) : Nat → List (Nat × Nat × Int)
  | 0 => []
  | j + 1 => coC x k j ++ [(k, (x.coins.getD j (0, 0)).1.toNat, 0)]
def hoC (c : Cr) : Nat → List (Nat × Nat × Int)
  | 0 => []
  | i + 1 => hoC c i ++ ([(0, 1 + c.ty.length + i, (c.ho.getD i dH).cl.2), (1 + c.ty.length + i, 0, -(c.ho.getD i dH).cl.1)] ++ coC (c.ho.getD i dH) (1 + c.ty.length + i) (c.ho.getD i dH).coins.length)
def gaC (c : Cr) : Nat → List (Nat × Nat × Int)
  | 0 => []
  | i + 1 => gaC c i ++ [((c.ga.getD i (0, 0, 0)).1.toNat, (c.ga.getD i (0, 0, 0)).2.1.toNat, (c.ga.getD i (0, 0, 0)).2.2)]
def nV (c : Cr) : Nat := 1 + c.ty.length + c.ho.length
def M0 : Mx := fun a b => if a = b then 0 else 1099511627776
def allC (c : Cr) : List (Nat × Nat × Int) := tyC c c.ty.length ++ (hoC c c.ho.length ++ gaC c c.ga.length)
def Mi (c : Cr) : Mx := lims M0 (allC c)
def Mf (c : Cr) : Mx := fw (Mi c) (nV c) (nV c)
/-- There is a dating. -/
def Ok (c : Cr) : Prop := ∀ a, a < nV c → 0 ≤ Mf c a a
instance (c : Cr) : Decidable (Ok c) := by unfold Ok; infer_instance

theorem mem_tyC {c : Cr} {x : Nat × Nat × Int} : ∀ {n : Nat}, x ∈ tyC c n ↔ ∃ i, i < n ∧ (x = (0, 1 + i, (c.ty.getD i (0, 0)).2) ∨ x = (1 + i, 0, -(c.ty.getD i (0, 0)).1)) := by
  intro n
  induction n with
  | zero => simp [tyC]
  | succ n ih =>
    simp only [tyC, List.mem_append, ih, List.mem_cons, List.not_mem_nil, or_false]
    constructor
    · rintro (⟨i, h1, h2⟩ | h)
      · exact ⟨i, by omega, h2⟩
      · exact ⟨n, by omega, h⟩
    · rintro ⟨i, h1, h2⟩
      rcases lt_succ_cases h1 with h | rfl
      · exact .inl ⟨i, h, h2⟩
      · exact .inr h2
theorem mem_coC {h : Hd} {k : Nat} {x : Nat × Nat × Int} : ∀ {n : Nat}, x ∈ coC h k n ↔ ∃ j, j < n ∧ x = (k, (h.coins.getD j (0, 0)).1.toNat, 0) := by
  intro n
  induction n with
  | zero => simp [coC]
  | succ n ih =>
    simp only [coC, List.mem_append, ih, List.mem_singleton]
    constructor
    · rintro (⟨i, h1, h2⟩ | h)
      · exact ⟨i, by omega, h2⟩
      · exact ⟨n, by omega, h⟩
    · rintro ⟨i, h1, h2⟩
      rcases lt_succ_cases h1 with h | rfl
      · exact .inl ⟨i, h, h2⟩
      · exact .inr h2
theorem mem_hoC {c : Cr} {x : Nat × Nat × Int} : ∀ {n : Nat}, x ∈ hoC c n ↔ ∃ i, i < n ∧ (x = (0, 1 + c.ty.length + i, (c.ho.getD i dH).cl.2) ∨ x = (1 + c.ty.length + i, 0, -(c.ho.getD i dH).cl.1) ∨ ∃ j, j < (c.ho.getD i dH).coins.length ∧ x = (1 + c.ty.length + i, ((c.ho.getD i dH).coins.getD j (0, 0)).1.toNat, 0)) := by
  intro n
  induction n with
  | zero => simp [hoC]
  | succ n ih =>
    simp only [hoC, List.mem_append, ih, List.mem_cons, List.not_mem_nil, or_false, mem_coC]
    constructor
    · rintro (⟨i, h1, h2⟩ | (h | h) | h)
      · exact ⟨i, by omega, h2⟩
      · exact ⟨n, by omega, .inl h⟩
      · exact ⟨n, by omega, .inr (.inl h)⟩
      · exact ⟨n, by omega, .inr (.inr h)⟩
    · rintro ⟨i, h1, h2⟩
      rcases lt_succ_cases h1 with h | rfl
      · exact .inl ⟨i, h, h2⟩
      · rcases h2 with h | h | h
        · exact .inr (.inl (.inl h))
        · exact .inr (.inl (.inr h))
        · exact .inr (.inr h)
theorem mem_gaC {c : Cr} {x : Nat × Nat × Int} : ∀ {n : Nat}, x ∈ gaC c n ↔ ∃ i, i < n ∧ x = ((c.ga.getD i (0, 0, 0)).1.toNat, (c.ga.getD i (0, 0, 0)).2.1.toNat, (c.ga.getD i (0, 0, 0)).2.2) := by
  intro n
  induction n with
  | zero => simp [gaC]
  | succ n ih =>
    simp only [gaC, List.mem_append, ih, List.mem_singleton]
    constructor
    · rintro (⟨i, h1, h2⟩ | h)
      · exact ⟨i, by omega, h2⟩
      · exact ⟨n, by omega, h⟩
    · rintro ⟨i, h1, h2⟩
      rcases lt_succ_cases h1 with h | rfl
      · exact .inl ⟨i, h, h2⟩
      · exact .inr h2

/-- A dating. -/
def DT (c : Cr) (t h : List Int) : Prop := VC c ∧ t.length = c.ty.length ∧ h.length = c.ho.length ∧ (∀ i, i < c.ty.length → (c.ty.getD i (0, 0)).1 ≤ t.getD i 0 ∧ t.getD i 0 ≤ (c.ty.getD i (0, 0)).2) ∧
  (∀ i, i < c.ho.length → ((c.ho.getD i dH).cl.1 ≤ h.getD i 0 ∧ h.getD i 0 ≤ (c.ho.getD i dH).cl.2) ∧ ∀ j, j < (c.ho.getD i dH).coins.length → t.getD (((c.ho.getD i dH).coins.getD j (0, 0)).1 - 1).toNat 0 ≤ h.getD i 0) ∧
  (∀ i, i < c.ga.length → t.getD ((c.ga.getD i (0, 0, 0)).2.1 - 1).toNat 0 - t.getD ((c.ga.getD i (0, 0, 0)).1 - 1).toNat 0 ≤ (c.ga.getD i (0, 0, 0)).2.2)
instance (c : Cr) (t h : List Int) : Decidable (DT c t h) := by unfold DT; infer_instance

/-- The values of all variables. -/
def va (c : Cr) (t h : List Int) (a : Nat) : Int := if a = 0 then 0 else if a ≤ c.ty.length then t.getD (a - 1) 0 else h.getD (a - 1 - c.ty.length) 0
theorem vc_coin {c : Cr} (hv : VC c) {i j : Nat} (hi : i < c.ho.length) (hj : j < (c.ho.getD i dH).coins.length) : 1 ≤ ((c.ho.getD i dH).coins.getD j (0, 0)).1 ∧ ((c.ho.getD i dH).coins.getD j (0, 0)).1 ≤ c.ty.length := by
  have h1 := hv.2.2.1 i hi
  exact ⟨(h1.1.2.2.1 j hj).1.1, h1.2 j hj⟩
theorem allC_lt {c : Cr} (hv : VC c) : ∀ x ∈ allC c, x.1 < nV c ∧ x.2.1 < nV c := by
  intro x hx
  simp only [allC, List.mem_append, mem_tyC, mem_hoC, mem_gaC] at hx
  unfold nV
  rcases hx with ⟨i, hi, rfl | rfl⟩ | ⟨i, hi, rfl | rfl | ⟨j, hj, rfl⟩⟩ | ⟨i, hi, rfl⟩
  · simp only; omega
  · simp only; omega
  · simp only; omega
  · simp only; omega
  · have := vc_coin hv hi hj
    simp only; omega
  · have := hv.2.2.2 i hi
    unfold gOK at this
    simp only; omega
theorem allC_lb {c : Cr} (hv : VC c) : ∀ x ∈ allC c, -20000 ≤ x.2.2 := by
  intro x hx
  simp only [allC, List.mem_append, mem_tyC, mem_hoC, mem_gaC] at hx
  rcases hx with ⟨i, hi, rfl | rfl⟩ | ⟨i, hi, rfl | rfl | ⟨j, hj, rfl⟩⟩ | ⟨i, hi, rfl⟩
  · have := hv.2.1 i hi; unfold Yv at this; simp only; omega
  · have := hv.2.1 i hi; unfold Yv at this; simp only; omega
  · have := (hv.2.2.1 i hi).1.2.2.2; unfold Yv at this; simp only; omega
  · have := (hv.2.2.1 i hi).1.2.2.2; unfold Yv at this; simp only; omega
  · simp only; omega
  · have := hv.2.2.2 i hi; unfold gOK at this; simp only; omega

theorem sat_dt {c : Cr} (hv : VC c) {t h : List Int} (ht : t.length = c.ty.length) (hh : h.length = c.ho.length) : Sat (nV c) (va c t h) (Mi c) ↔ DT c t h := by
  have v0 : va c t h 0 = 0 := by simp [va]
  have vt : ∀ i, i < c.ty.length → va c t h (1 + i) = t.getD i 0 := fun i hi => by
    unfold va
    rw [if_neg (by omega), if_pos (by omega), show 1 + i - 1 = i by omega]
  have vh : ∀ i, va c t h (1 + c.ty.length + i) = h.getD i 0 := fun i => by
    unfold va
    rw [if_neg (by omega), if_neg (by omega), show 1 + c.ty.length + i - 1 - c.ty.length = i by omega]
  have vk : ∀ k : Int, 1 ≤ k → k ≤ c.ty.length → va c t h k.toNat = t.getD (k - 1).toNat 0 := fun k h1 h2 => by
    have := vt (k - 1).toNat (by omega)
    rwa [show 1 + (k - 1).toNat = k.toNat by omega] at this
  unfold Mi
  rw [sat_lims (allC_lt hv)]
  constructor
  · rintro ⟨_, hx⟩
    refine ⟨hv, ht, hh, fun i hi => ?_, fun i hi => ⟨?_, fun j hj => ?_⟩, fun i hi => ?_⟩
    · have h1 := hx _ (List.mem_append_left _ (mem_tyC.2 ⟨i, hi, .inl rfl⟩))
      have h2 := hx _ (List.mem_append_left _ (mem_tyC.2 ⟨i, hi, .inr rfl⟩))
      simp only [v0, vt i hi] at h1 h2
      omega
    · have h1 := hx _ (List.mem_append_right _ (List.mem_append_left _ (mem_hoC.2 ⟨i, hi, .inl rfl⟩)))
      have h2 := hx _ (List.mem_append_right _ (List.mem_append_left _ (mem_hoC.2 ⟨i, hi, .inr (.inl rfl)⟩)))
      simp only [v0, vh i] at h1 h2
      omega
    · have h1 := hx _ (List.mem_append_right _ (List.mem_append_left _ (mem_hoC.2 ⟨i, hi, .inr (.inr ⟨j, hj, rfl⟩)⟩)))
      have hc := vc_coin hv hi hj
      simp only [vh i, vk _ hc.1 hc.2] at h1
      omega
    · have h1 := hx _ (List.mem_append_right _ (List.mem_append_right _ (mem_gaC.2 ⟨i, hi, rfl⟩)))
      have hg := hv.2.2.2 i hi
      unfold gOK at hg
      simp only [vk _ hg.1.1 hg.1.2, vk _ hg.2.1.1 hg.2.1.2] at h1
      exact h1
  · rintro ⟨_, _, _, d1, d2, d3⟩
    have bnd : ∀ a, a < nV c → -9999 ≤ va c t h a ∧ va c t h a ≤ 9999 := by
      intro a ha
      unfold nV at ha
      rcases Nat.eq_zero_or_pos a with rfl | hp
      · rw [v0]; omega
      · by_cases hle : a ≤ c.ty.length
        · have h1 := vt (a - 1) (by omega)
          rw [show 1 + (a - 1) = a by omega] at h1
          have h2 := d1 (a - 1) (by omega)
          have h3 := hv.2.1 (a - 1) (by omega)
          unfold Yv at h3
          omega
        · have h1 := vh (a - 1 - c.ty.length)
          rw [show 1 + c.ty.length + (a - 1 - c.ty.length) = a by omega] at h1
          have h2 := (d2 (a - 1 - c.ty.length) (by omega)).1
          have h3 := (hv.2.2.1 (a - 1 - c.ty.length) (by omega)).1.2.2.2
          unfold Yv at h3
          omega
    refine ⟨fun a b ha hb => ?_, fun x hx => ?_⟩
    · have h1 := bnd a ha
      have h2 := bnd b hb
      unfold M0
      split
      · rename_i hab; subst hab; omega
      · omega
    · simp only [allC, List.mem_append, mem_tyC, mem_hoC, mem_gaC] at hx
      rcases hx with ⟨i, hi, rfl | rfl⟩ | ⟨i, hi, rfl | rfl | ⟨j, hj, rfl⟩⟩ | ⟨i, hi, rfl⟩
      · have := d1 i hi; simp only [v0, vt i hi]; omega
      · have := d1 i hi; simp only [v0, vt i hi]; omega
      · have := (d2 i hi).1; simp only [v0, vh i]; omega
      · have := (d2 i hi).1; simp only [v0, vh i]; omega
      · have h1 := (d2 i hi).2 j hj
        have hc := vc_coin hv hi hj
        simp only [vh i, vk _ hc.1 hc.2]; omega
      · have h1 := d3 i hi
        have hg := hv.2.2.2 i hi
        unfold gOK at hg
        simp only [vk _ hg.1.1 hg.1.2, vk _ hg.2.1.1 hg.2.1.2]
        exact h1

/-- The ends. -/
def loT (c : Cr) : List Int := (List.range c.ty.length).map fun i => - Mf c (1 + i) 0
def hiT (c : Cr) : List Int := (List.range c.ty.length).map fun i => Mf c 0 (1 + i)
def loH (c : Cr) : List Int := (List.range c.ho.length).map fun i => - Mf c (1 + c.ty.length + i) 0
def hiH (c : Cr) : List Int := (List.range c.ho.length).map fun i => Mf c 0 (1 + c.ty.length + i)
theorem getD_rmap (f : Nat → Int) {n i : Nat} (h : i < n) : ((List.range n).map f).getD i 0 = f i := by simp [List.getD, h]
theorem va_of {c : Cr} {f : Nat → Int} (f0 : f 0 = 0) {a : Nat} (ha : a < nV c) : va c ((List.range c.ty.length).map fun i => f (1 + i)) ((List.range c.ho.length).map fun i => f (1 + c.ty.length + i)) a = f a := by
  unfold nV at ha
  unfold va
  split
  · rename_i h; subst h; exact f0.symm
  · split
    · rw [getD_rmap _ (by omega)]; congr 1; omega
    · rw [getD_rmap _ (by omega)]; congr 1; omega
theorem sat_congr {n : Nat} {d e : Nat → Int} {M : Mx} (h : ∀ a, a < n → d a = e a) (hs : Sat n d M) : Sat n e M := fun a b ha hb => by rw [← h a ha, ← h b hb]; exact hs a b ha hb
theorem mi_00 (c : Cr) : Mi c 0 0 ≤ 0 := Int.le_trans (lims_le _ _ _ _) (by simp [M0])
theorem nV_pos (c : Cr) : 0 < nV c := by unfold nV; omega

/-- Where all bounds agree, the ends are datings. -/
theorem ends_dt {c : Cr} (hv : VC c) (hok : Ok c) : DT c (loT c) (loH c) ∧ DT c (hiT c) (hiH c) := by
  obtain ⟨h1, h2, h3⟩ := (fw_spec (nV_pos c) (mi_00 c)).1 hok
  have e0 : Mf c 0 0 = 0 := h3
  refine ⟨(sat_dt hv (by simp [loT]) (by simp [loH])).1 (sat_congr (fun a ha => ?_) h1), (sat_dt hv (by simp [hiT]) (by simp [hiH])).1 (sat_congr (fun a ha => ?_) h2)⟩
  · exact (va_of (f := fun a => - Mf c a 0) (by simp [e0]) ha).symm
  · exact (va_of (f := fun a => Mf c 0 a) e0 ha).symm
/-- Each dating lies between the ends. -/
theorem dt_between {c : Cr} {t h : List Int} (hd : DT c t h) : Ok c ∧ (∀ i, i < c.ty.length → (loT c).getD i 0 ≤ t.getD i 0 ∧ t.getD i 0 ≤ (hiT c).getD i 0) ∧ ∀ i, i < c.ho.length → (loH c).getD i 0 ≤ h.getD i 0 ∧ h.getD i 0 ≤ (hiH c).getD i 0 := by
  have hv := hd.1
  have hs := (sat_dt hv hd.2.1 hd.2.2.1).2 hd
  obtain ⟨h1, h2⟩ := (fw_spec (nV_pos c) (mi_00 c)).2 (va c t h) (by simp [va]) hs
  refine ⟨h1, fun i hi => ?_, fun i hi => ?_⟩
  · have := h2 (1 + i) (by unfold nV; omega)
    unfold loT hiT
    rw [getD_rmap _ hi, getD_rmap _ hi]
    have e : va c t h (1 + i) = t.getD i 0 := by
      unfold va
      rw [if_neg (by omega), if_pos (by omega), show 1 + i - 1 = i by omega]
    rw [e] at this
    exact this
  · have := h2 (1 + c.ty.length + i) (by unfold nV; omega)
    unfold loH hiH
    rw [getD_rmap _ hi, getD_rmap _ hi]
    have e : va c t h (1 + c.ty.length + i) = h.getD i 0 := by
      unfold va
      rw [if_neg (by omega), if_neg (by omega), show 1 + c.ty.length + i - 1 - c.ty.length = i by omega]
    rw [e] at this
    exact this
theorem ok_iff {c : Cr} (hv : VC c) : Ok c ↔ ∃ t h, DT c t h := ⟨fun h => ⟨_, _, (ends_dt hv h).1⟩, fun ⟨_, _, h⟩ => (dt_between h).1⟩
end Go.Proofs.Ytnekkkjedmlloaa
