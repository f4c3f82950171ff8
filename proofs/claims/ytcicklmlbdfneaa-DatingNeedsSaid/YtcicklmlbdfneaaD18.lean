/- What the datings of a chronology say of another one: with one year fixed, moved, with less. No condition. -/
import Derived.Test.YtcicklmlbdfneaaD6
namespace Go.Proofs.Ytcicklmlbdfneaa
open Go Go.Abs
set_option linter.unusedSimpArgs false
set_option linter.unusedVariables false
set_option maxRecDepth 20000

/-- Each value between the ends is that of a dating. -/
theorem pick_val {c : Cr} (hv : VC c) (ho : Ok c) {a : Nat} (ha : a < nV c) {y : Int} (h1 : - Mf c a 0 ≤ y) (h2 : y ≤ Mf c 0 a) : ∃ t h, DT c t h ∧ va c t h a = y := by
  have hn := nV_pos c
  have ht := fw_tri ho (nV c) (Nat.le_refl _)
  have hle : ∀ a b, Mf c a b ≤ Mi c a b := fun a b => by
    have := fw_le (Mi c) (nV c) a b 0 (nV c)
    rw [Nat.zero_add] at this
    exact this
  have h00 : Mf c 0 0 = 0 := by
    have := ho 0 hn
    have := hle 0 0
    have := mi_00 c
    omega
  have haa : Mf c a a = 0 := by
    have := ho a ha
    have := hle a a
    have h3 : Mi c a a ≤ M0 a a := lims_le _ _ _ _
    have h4 : M0 a a = 0 := by simp [M0]
    omega
  have hs : Sat (nV c) (fun b => min (y + Mf c a b) (Mf c 0 b)) (Mi c) := by
    intro b b' hb hb'
    have t1 := ht b a b' hb ha hb'
    have t2 := ht b 0 b' hb hn hb'
    have t3 := hle b b'
    have e1 : Mf c a b' ≤ Mf c a b + Mf c b b' := t1
    have e2 : Mf c 0 b' ≤ Mf c 0 b + Mf c b b' := t2
    show min (y + Mf c a b') (Mf c 0 b') - min (y + Mf c a b) (Mf c 0 b) ≤ Mi c b b'
    omega
  have f0 : (fun b => min (y + Mf c a b) (Mf c 0 b)) 0 = 0 := by show min (y + Mf c a 0) (Mf c 0 0) = 0; omega
  refine ⟨_, _, (sat_dt hv (by simp) (by simp)).1 (sat_congr (fun b hb => (va_of (f := fun b => min (y + Mf c a b) (Mf c 0 b)) f0 hb).symm) hs), ?_⟩
  rw [va_of (f := fun b => min (y + Mf c a b) (Mf c 0 b)) f0 ha]
  show min (y + Mf c a a) (Mf c 0 a) = y
  omega
theorem pick_T {c : Cr} (hv : VC c) (ho : Ok c) {k : Nat} (hk : k < c.ty.length) {y : Int} (h1 : (loT c).getD k 0 ≤ y) (h2 : y ≤ (hiT c).getD k 0) : ∃ t h, DT c t h ∧ t.getD k 0 = y := by
  rw [loT, getD_rmap _ hk] at h1
  rw [hiT, getD_rmap _ hk] at h2
  obtain ⟨t, h, hd, e⟩ := pick_val hv ho (a := 1 + k) (by unfold nV; omega) h1 h2
  refine ⟨t, h, hd, ?_⟩
  unfold va at e
  rwa [if_neg (by omega), if_pos (by omega), show 1 + k - 1 = k by omega] at e
theorem pick_H {c : Cr} (hv : VC c) (ho : Ok c) {k : Nat} (hk : k < c.ho.length) {y : Int} (h1 : (loH c).getD k 0 ≤ y) (h2 : y ≤ (hiH c).getD k 0) : ∃ t h, DT c t h ∧ h.getD k 0 = y := by
  rw [loH, getD_rmap _ hk] at h1
  rw [hiH, getD_rmap _ hk] at h2
  obtain ⟨t, h, hd, e⟩ := pick_val hv ho (a := 1 + c.ty.length + k) (by unfold nV; omega) h1 h2
  refine ⟨t, h, hd, ?_⟩
  unfold va at e
  rwa [if_neg (by omega), if_neg (by omega), show 1 + c.ty.length + k - 1 - c.ty.length = k by omega] at e

theorem getD_setG {α : Type} (l : List α) (d : α) {j : Nat} (i : Nat) (v : α) (hj : j < l.length) : (l.set j v).getD i d = if i = j then v else l.getD i d := by
  simp only [List.getD, List.getElem?_set]
  by_cases h : j = i
  · subst h; simp [hj]
  · rw [if_neg h, if_neg (fun hh => h hh.symm)]

/-- One type's year is fixed. -/
def setT (c : Cr) (k : Nat) (y : Int) : Cr := { c with nlT := false, ty := c.ty.set k (y, y), tlT := .unk }
theorem setT_vc {c : Cr} (hv : VC c) {k : Nat} (hk : k < c.ty.length) {y : Int} (h1 : (c.ty.getD k (0, 0)).1 ≤ y) (h2 : y ≤ (c.ty.getD k (0, 0)).2) : VC (setT c k y) := by
  obtain ⟨v1, v2, v3, v4⟩ := hv
  have hl : (setT c k y).ty.length = c.ty.length := by simp [setT]
  refine ⟨by rw [hl]; exact v1, fun i hi => ?_, by rw [hl]; exact v3, by rw [hl]; exact v4⟩
  show Yv ((c.ty.set k (y, y)).getD i (0, 0))
  rw [getD_setG _ _ _ _ hk]
  split
  · have := v2 k hk
    unfold Yv at this ⊢
    simp only
    omega
  · exact v2 i (by rw [hl] at hi; exact hi)
theorem setT_dt {c : Cr} (hv : VC c) {k : Nat} (hk : k < c.ty.length) {y : Int} (h1 : (c.ty.getD k (0, 0)).1 ≤ y) (h2 : y ≤ (c.ty.getD k (0, 0)).2) {t h : List Int} : DT (setT c k y) t h ↔ DT c t h ∧ t.getD k 0 = y := by
  have hl : (setT c k y).ty.length = c.ty.length := by simp [setT]
  have hg : ∀ i, (setT c k y).ty.getD i (0, 0) = if i = k then (y, y) else c.ty.getD i (0, 0) := fun i => getD_setG _ _ _ _ hk
  constructor
  · rintro ⟨d1, d2, d3, d4, d5, d6⟩
    have e : t.getD k 0 = y := by
      have := d4 k (by rw [hl]; exact hk)
      rw [hg k, if_pos rfl] at this
      simp only at this
      omega
    refine ⟨⟨hv, by rw [← hl]; exact d2, d3, fun i hi => ?_, d5, d6⟩, e⟩
    have := d4 i (by rw [hl]; exact hi)
    rw [hg i] at this
    split at this
    · rename_i hik
      subst hik
      simp only at this
      omega
    · exact this
  · rintro ⟨⟨d1, d2, d3, d4, d5, d6⟩, e⟩
    refine ⟨setT_vc hv hk h1 h2, by rw [hl]; exact d2, d3, fun i hi => ?_, d5, d6⟩
    rw [hg i]
    split
    · rename_i hik; subst hik; simp only; omega
    · exact d4 i (by rw [hl] at hi; exact hi)
theorem setT_ok {c : Cr} (hv : VC c) {k : Nat} (hk : k < c.ty.length) {y : Int} (h1 : (c.ty.getD k (0, 0)).1 ≤ y) (h2 : y ≤ (c.ty.getD k (0, 0)).2) : Ok (setT c k y) ↔ Ok c ∧ (loT c).getD k 0 ≤ y ∧ y ≤ (hiT c).getD k 0 := by
  rw [ok_iff (setT_vc hv hk h1 h2)]
  constructor
  · rintro ⟨t, h, hd⟩
    obtain ⟨hd, e⟩ := (setT_dt hv hk h1 h2).1 hd
    obtain ⟨b1, b2, b3⟩ := dt_between hd
    have := b2 k hk
    exact ⟨b1, by omega, by omega⟩
  · rintro ⟨ho, h3, h4⟩
    obtain ⟨t, h, hd, e⟩ := pick_T hv ho hk h3 h4
    exact ⟨t, h, (setT_dt hv hk h1 h2).2 ⟨hd, e⟩⟩

/-- One hoard's closing is fixed. -/
def setH (c : Cr) (k : Nat) (y : Int) : Cr := { c with nlH := false, ho := c.ho.set k { c.ho.getD k dH with cl := (y, y) }, tlH := .unk }
theorem setH_get {c : Cr} {k : Nat} (hk : k < c.ho.length) (y : Int) (i : Nat) : (setH c k y).ho.getD i dH = if i = k then { c.ho.getD k dH with cl := (y, y) } else c.ho.getD i dH := getD_setG _ _ _ _ hk
theorem setH_vc {c : Cr} (hv : VC c) {k : Nat} (hk : k < c.ho.length) {y : Int} (h1 : (c.ho.getD k dH).cl.1 ≤ y) (h2 : y ≤ (c.ho.getD k dH).cl.2) : VC (setH c k y) := by
  obtain ⟨v1, v2, v3, v4⟩ := hv
  have hl : (setH c k y).ho.length = c.ho.length := by simp [setH]
  refine ⟨by rw [hl]; exact v1, v2, fun i hi => ?_, v4⟩
  rw [setH_get hk]
  split
  · have := v3 k hk
    refine ⟨⟨this.1.1, this.1.2.1, this.1.2.2.1, ?_⟩, this.2⟩
    have h3 := this.1.2.2.2
    unfold Yv at h3 ⊢
    simp only
    omega
  · exact v3 i (by rw [hl] at hi; exact hi)
theorem setH_dt {c : Cr} (hv : VC c) {k : Nat} (hk : k < c.ho.length) {y : Int} (h1 : (c.ho.getD k dH).cl.1 ≤ y) (h2 : y ≤ (c.ho.getD k dH).cl.2) {t h : List Int} : DT (setH c k y) t h ↔ DT c t h ∧ h.getD k 0 = y := by
  have hl : (setH c k y).ho.length = c.ho.length := by simp [setH]
  constructor
  · rintro ⟨d1, d2, d3, d4, d5, d6⟩
    have e : h.getD k 0 = y := by
      have := (d5 k (by rw [hl]; exact hk)).1
      rw [setH_get hk, if_pos rfl] at this
      simp only at this
      omega
    refine ⟨⟨hv, d2, by rw [← hl]; exact d3, d4, fun i hi => ?_, d6⟩, e⟩
    have := d5 i (by rw [hl]; exact hi)
    rw [setH_get hk] at this
    split at this
    · rename_i hik
      subst hik
      exact ⟨by omega, this.2⟩
    · exact this
  · rintro ⟨⟨d1, d2, d3, d4, d5, d6⟩, e⟩
    refine ⟨setH_vc hv hk h1 h2, d2, by rw [hl]; exact d3, d4, fun i hi => ?_, d6⟩
    rw [setH_get hk]
    split
    · rename_i hik
      subst hik
      exact ⟨by simp only; omega, (d5 i hk).2⟩
    · exact d5 i (by rw [hl] at hi; exact hi)
theorem setH_ok {c : Cr} (hv : VC c) {k : Nat} (hk : k < c.ho.length) {y : Int} (h1 : (c.ho.getD k dH).cl.1 ≤ y) (h2 : y ≤ (c.ho.getD k dH).cl.2) : Ok (setH c k y) ↔ Ok c ∧ (loH c).getD k 0 ≤ y ∧ y ≤ (hiH c).getD k 0 := by
  rw [ok_iff (setH_vc hv hk h1 h2)]
  constructor
  · rintro ⟨t, h, hd⟩
    obtain ⟨hd, e⟩ := (setH_dt hv hk h1 h2).1 hd
    obtain ⟨b1, b2, b3⟩ := dt_between hd
    have := b3 k hk
    exact ⟨b1, by omega, by omega⟩
  · rintro ⟨ho, h3, h4⟩
    obtain ⟨t, h, hd, e⟩ := pick_H hv ho hk h3 h4
    exact ⟨t, h, (setH_dt hv hk h1 h2).2 ⟨hd, e⟩⟩

/-- All years are moved. -/
def mvC (c : Cr) (n : Int) : Cr := { c with ty := c.ty.map fun p => (p.1 + n, p.2 + n), ho := c.ho.map fun x => { x with cl := (x.cl.1 + n, x.cl.2 + n) } }
theorem mv_ty {c : Cr} {n : Int} {i : Nat} (hi : i < c.ty.length) : (mvC c n).ty.getD i (0, 0) = ((c.ty.getD i (0, 0)).1 + n, (c.ty.getD i (0, 0)).2 + n) := by simp [mvC, List.getD, hi]
theorem mv_ho {c : Cr} {n : Int} {i : Nat} (hi : i < c.ho.length) : (mvC c n).ho.getD i dH = { c.ho.getD i dH with cl := ((c.ho.getD i dH).cl.1 + n, (c.ho.getD i dH).cl.2 + n) } := by simp [mvC, List.getD, hi]
theorem getD_add {l : List Int} {n : Int} {i : Nat} (hi : i < l.length) : (l.map (· + n)).getD i 0 = l.getD i 0 + n := by simp [List.getD, hi]
theorem mv_dt {c : Cr} {n : Int} (hv : VC (mvC c n)) {t h : List Int} (hd : DT c t h) : DT (mvC c n) (t.map (· + n)) (h.map (· + n)) := by
  have v1 := hd.1
  obtain ⟨d1, d2, d3, d4, d5, d6⟩ := hd
  have lt : (mvC c n).ty.length = c.ty.length := by simp [mvC]
  have lh : (mvC c n).ho.length = c.ho.length := by simp [mvC]
  refine ⟨hv, by simp [lt, d2], by simp [lh, d3], fun i hi => ?_, fun i hi => ?_, fun i hi => ?_⟩
  · rw [lt] at hi
    rw [mv_ty hi, getD_add (by omega)]
    have := d4 i hi
    simp only
    omega
  · rw [lh] at hi
    rw [mv_ho hi, getD_add (by omega)]
    have := d5 i hi
    refine ⟨by simp only; omega, fun j hj => ?_⟩
    have hc := vc_coin v1 hi hj
    simp only
    rw [getD_add (by omega)]
    have := this.2 j hj
    omega
  · have hg := v1.2.2.2 i hi
    unfold gOK at hg
    show (t.map (· + n)).getD ((c.ga.getD i (0, 0, 0)).2.1 - 1).toNat 0 - (t.map (· + n)).getD ((c.ga.getD i (0, 0, 0)).1 - 1).toNat 0 ≤ (c.ga.getD i (0, 0, 0)).2.2
    rw [getD_add (by omega), getD_add (by omega)]
    have := d6 i hi
    omega
theorem mv_back {c : Cr} {n : Int} (hv : VC c) {t h : List Int} (hd : DT (mvC c n) t h) : DT c (t.map (· + -n)) (h.map (· + -n)) := by
  have v1 := hd.1
  obtain ⟨d1, d2, d3, d4, d5, d6⟩ := hd
  have lt : (mvC c n).ty.length = c.ty.length := by simp [mvC]
  have lh : (mvC c n).ho.length = c.ho.length := by simp [mvC]
  refine ⟨hv, by simp [← lt, d2], by simp [← lh, d3], fun i hi => ?_, fun i hi => ?_, fun i hi => ?_⟩
  · have := d4 i (by omega)
    rw [mv_ty hi] at this
    rw [getD_add (by omega)]
    simp only at this
    omega
  · have := d5 i (by omega)
    rw [mv_ho hi] at this
    rw [getD_add (by omega)]
    simp only at this
    refine ⟨by omega, fun j hj => ?_⟩
    have hc := vc_coin hv hi hj
    rw [getD_add (by omega)]
    have := this.2 j hj
    omega
  · have hg := hv.2.2.2 i hi
    unfold gOK at hg
    rw [getD_add (by omega), getD_add (by omega)]
    have := d6 i hi
    have : t.getD ((c.ga.getD i (0, 0, 0)).2.1 - 1).toNat 0 - t.getD ((c.ga.getD i (0, 0, 0)).1 - 1).toNat 0 ≤ (c.ga.getD i (0, 0, 0)).2.2 := this
    omega
theorem mv_ok {c : Cr} {n : Int} (hv : VC c) (hv2 : VC (mvC c n)) : Ok (mvC c n) ↔ Ok c := by
  rw [ok_iff hv, ok_iff hv2]
  exact ⟨fun ⟨t, h, hd⟩ => ⟨_, _, mv_back hv hd⟩, fun ⟨t, h, hd⟩ => ⟨_, _, mv_dt hv2 hd⟩⟩
theorem mv_ends {c : Cr} {n : Int} (hv : VC c) (hv2 : VC (mvC c n)) (ho : Ok c) : (∀ i, i < c.ty.length → (loT (mvC c n)).getD i 0 = (loT c).getD i 0 + n ∧ (hiT (mvC c n)).getD i 0 = (hiT c).getD i 0 + n) ∧
    ∀ i, i < c.ho.length → (loH (mvC c n)).getD i 0 = (loH c).getD i 0 + n ∧ (hiH (mvC c n)).getD i 0 = (hiH c).getD i 0 + n := by
  have ho2 := (mv_ok hv hv2).2 ho
  obtain ⟨a1, a2⟩ := ends_dt hv ho
  obtain ⟨b1, b2⟩ := ends_dt hv2 ho2
  have lt : (mvC c n).ty.length = c.ty.length := by simp [mvC]
  have lh : (mvC c n).ho.length = c.ho.length := by simp [mvC]
  have p1 := dt_between (mv_dt hv2 a1)
  have p2 := dt_between (mv_dt hv2 a2)
  have q1 := dt_between (mv_back hv b1)
  have q2 := dt_between (mv_back hv b2)
  have l1 : (loT c).length = c.ty.length := by simp [loT]
  have l2 : (hiT c).length = c.ty.length := by simp [hiT]
  have l3 : (loT (mvC c n)).length = c.ty.length := by simp [loT, lt]
  have l4 : (hiT (mvC c n)).length = c.ty.length := by simp [hiT, lt]
  have m1 : (loH c).length = c.ho.length := by simp [loH]
  have m2 : (hiH c).length = c.ho.length := by simp [hiH]
  have m3 : (loH (mvC c n)).length = c.ho.length := by simp [loH, lh]
  have m4 : (hiH (mvC c n)).length = c.ho.length := by simp [hiH, lh]
  refine ⟨fun i hi => ?_, fun i hi => ?_⟩
  · have r1 := p1.2.1 i (by omega)
    have r2 := p2.2.1 i (by omega)
    have r3 := q1.2.1 i hi
    have r4 := q2.2.1 i hi
    rw [getD_add (by omega)] at r1 r2 r3 r4
    omega
  · have r1 := p1.2.2 i (by omega)
    have r2 := p2.2.2 i (by omega)
    have r3 := q1.2.2 i hi
    have r4 := q2.2.2 i hi
    rw [getD_add (by omega)] at r1 r2 r3 r4
    omega
end Go.Proofs.Ytcicklmlbdfneaa
