/- Colorings: how many colors they have, and what greedy coloring reaches. No program in sight. -/
import Derived.Test.YticiimmfjdkimaaT3
import Derived.Test.YticiimmfjdkimaaD11
namespace Go.Proofs.Yticiimmfjdkimaa
open Go Go.Abs
set_option linter.unusedSimpArgs false
set_option linter.unusedVariables false
set_option maxRecDepth 20000

theorem sub_len : ∀ {A B : List Int}, A.Nodup → (∀ x ∈ A, x ∈ B) → A.length ≤ B.length := by
  intro A
  induction A with
  | nil => intro B _ _; simp
  | cons a A ih =>
    intro B hn hs
    obtain ⟨h1, h2⟩ := List.nodup_cons.1 hn
    have hm := hs a (by simp)
    have := ih (B := B.erase a) h2 (fun x hx => by
      have hne : x ≠ a := fun hh => by subst hh; exact h1 hx
      exact (List.mem_erase_of_ne hne).2 (hs x (by simp [hx])))
    rw [List.length_erase_of_mem hm] at this
    have hp := List.length_pos_of_mem hm
    simp only [List.length_cons]
    omega
def upN (N : Nat) : List Int := (List.range N).map fun (j : Nat) => (j : Int)
theorem mem_upN {N : Nat} {x : Int} : x ∈ upN N ↔ 0 ≤ x ∧ x < N := by
  unfold upN
  rw [List.mem_map]
  constructor
  · rintro ⟨j, hj, rfl⟩; rw [List.mem_range] at hj; omega
  · intro h; exact ⟨x.toNat, by rw [List.mem_range]; omega, by omega⟩
theorem upN_len (N : Nat) : (upN N).length = N := by simp [upN]
theorem upN_nodup (N : Nat) : (upN N).Nodup := by
  unfold upN
  refine List.pairwise_map.2 ((List.nodup_range (n := N)).imp fun hh => ?_)
  omega
theorem mem_dsK {c : List Int} {x : Int} : ∀ {i : Nat}, x ∈ dsK c i ↔ (0 ≤ x ∧ x ≤ 15) ∧ ∃ j, j < i ∧ c.getD j 0 = x := by
  intro i
  induction i with
  | zero => simp [dsK]
  | succ i ih =>
    unfold dsK
    split
    · rename_i hc
      rw [List.mem_append, ih, List.mem_singleton]
      constructor
      · rintro (⟨h, j, a, b⟩ | rfl)
        · exact ⟨h, j, by omega, b⟩
        · exact ⟨hc.1, i, by omega, rfl⟩
      · rintro ⟨h, j, a, b⟩
        by_cases hj : j = i
        · subst hj; exact .inr b.symm
        · exact .inl ⟨h, j, by omega, b⟩
    · rename_i hc
      rw [ih]
      constructor
      · rintro ⟨h, j, a, b⟩; exact ⟨h, j, by omega, b⟩
      · rintro ⟨h, j, a, b⟩
        by_cases hj : j = i
        · subst hj
          have hin : c.getD j 0 ∈ dsK c j := Classical.byContradiction fun hh => hc ⟨by rw [b]; exact h, hh⟩
          rw [b] at hin
          exact ih.1 hin
        · exact ⟨h, j, by omega, b⟩
theorem dsK_nodup (c : List Int) : ∀ i, (dsK c i).Nodup := by
  intro i
  induction i with
  | zero => simp [dsK]
  | succ i ih =>
    unfold dsK
    split
    · rename_i hc
      refine List.nodup_append.2 ⟨ih, by simp, fun a ha b hb => ?_⟩
      rw [List.mem_singleton] at hb
      subst hb
      exact fun hh => by subst hh; exact hc.2 ha
    · exact ih
theorem colN_le {c : List Int} {k : Nat} (h : ∀ i, i < c.length → 0 ≤ c.getD i 0 ∧ c.getD i 0 < k) : colN c ≤ k := by
  have := sub_len (dsK_nodup c c.length) (B := upN k) (fun x hx => by
    obtain ⟨_, j, hj, e⟩ := mem_dsK.1 hx
    rw [← e]
    exact mem_upN.2 (h j hj))
  rw [upN_len] at this
  exact this
theorem colN_kc {e : List (Int × Int)} {c : List Int} (hp : Pp e c) (h : ∀ i, i < c.length → 0 ≤ c.getD i 0 ∧ c.getD i 0 ≤ 15) : Kc c.length e (colN c) := by
  obtain ⟨L, hL⟩ : ∃ L, L = dsK c c.length := ⟨_, rfl⟩
  have hm : ∀ i, i < c.length → ∃ f : Nat, findI (fun k => decide (L.getD k 0 = c.getD i 0)) L.length = f ∧ f < L.length ∧ L.getD f 0 = c.getD i 0 := fun i hi => by
    have h1 : c.getD i 0 ∈ L := by rw [hL]; exact mem_dsK.2 ⟨h i hi, i, hi, rfl⟩
    obtain ⟨k, hk, e1⟩ := List.getElem_of_mem h1
    have e2 : L.getD k 0 = c.getD i 0 := by simp [List.getD, hk, e1]
    obtain ⟨f, f1, f2, f3, _⟩ := findI_spec (p := fun k => decide (L.getD k 0 = c.getD i 0)) hk (decide_eq_true e2)
    exact ⟨f, f1, by omega, of_decide_eq_true f3⟩
  refine ⟨c.map fun x => findI (fun k => decide (L.getD k 0 = x)) L.length, by simp, fun i j hij hj he => ?_, fun i hi => ?_⟩
  · rw [List.length_map] at hj
    rw [getD_map _ _ (by omega), getD_map _ _ hj]
    obtain ⟨f, f1, _, f3⟩ := hm i (by omega)
    obtain ⟨g, g1, _, g3⟩ := hm j hj
    rw [f1, g1]
    intro hh
    have : f = g := by omega
    subst this
    exact hp i j hij hj he (f3.symm.trans g3)
  · rw [List.length_map] at hi
    rw [getD_map _ _ hi]
    obtain ⟨f, f1, f2, _⟩ := hm i hi
    rw [f1]
    unfold colN
    rw [← hL]
    omega
theorem isC_iff {n : Int} {e : List (Int × Int)} {c : List Int} (hv : Vd n e) : isC n e c ↔ (c.length : Int) = n ∧ (∀ i, i < c.length → 0 ≤ c.getD i 0) ∧ Pp e c := by
  constructor
  · rintro ⟨_, h1, h2, h3⟩
    refine ⟨h1, h2, fun i j hij hj he => ?_⟩
    obtain ⟨k, hk, e1⟩ := mem_getD_iff.1 he
    have := h3 k hk
    rw [e1] at this
    simpa using this
  · rintro ⟨h1, h2, h3⟩
    refine ⟨hv, h1, h2, fun k hk => ?_⟩
    have hp := vd_at hv hk
    have := h3 (e.getD k (0, 0)).1.toNat (e.getD k (0, 0)).2.toNat (by omega) (by omega) (by
      rw [show (((e.getD k (0, 0)).1.toNat : Nat) : Int) = (e.getD k (0, 0)).1 by omega, show (((e.getD k (0, 0)).2.toNat : Nat) : Int) = (e.getD k (0, 0)).2 by omega]
      exact mem_getD hk)
    exact this
theorem col_spec {n : Int} {e : List (Int × Int)} (hv : Vd n e) : (col n e).length = n.toNat ∧ Pp e (col n e) ∧ Rg (chi n e) (col n e) := by
  obtain ⟨_, _, h3, _⟩ := chi_kc hv
  have := (ext_iff _ _ _).2 h3
  unfold col
  cases hx : ext e (chi n e) n.toNat [] with
  | none => rw [hx] at this; cases this
  | some r =>
    have := ext_sound e (chi n e) n.toNat [] r (fun i j _ hj _ => by simp at hj) (fun i hi => by simp at hi) hx
    simpa using this
/-- A coloring with small colors has at least the least number of colors. -/
theorem colN_ge {n : Int} {e : List (Int × Int)} {c : List Int} (hc : isC n e c) (h : ∀ i, i < c.length → c.getD i 0 ≤ 15) : chi n e ≤ colN c := by
  have hv := hc.1
  obtain ⟨h1, h2, h3⟩ := (isC_iff hv).1 hc
  have := colN_kc h3 (fun i hi => ⟨h2 i hi, h i hi⟩)
  rw [show c.length = n.toNat by omega] at this
  exact (chi_kc hv).2.2.2 _ (by omega) this
theorem colN_eq {n : Int} {e : List (Int × Int)} {c : List Int} (hc : isC n e c) (h : ∀ i, i < c.length → c.getD i 0 < chi n e) : (colN c : Int) = chi n e := by
  have hv := hc.1
  obtain ⟨k0, k1, _, _⟩ := chi_kc hv
  have h12 := hv.2.1
  have g := colN_ge hc (fun i hi => by have := h i hi; omega)
  have l := colN_le (c := c) (k := (chi n e).toNat) (fun i hi => by have := h i hi; have := hc.2.2.1 i hi; omega)
  omega
theorem col_isC {n : Int} {e : List (Int × Int)} (hv : Vd n e) : isC n e (col n e) := by
  obtain ⟨h1, h2, h3⟩ := col_spec hv
  have := hv.1
  exact (isC_iff hv).2 ⟨by omega, fun i hi => (h3 i hi).1, h2⟩
theorem col_colN {n : Int} {e : List (Int × Int)} (hv : Vd n e) : (colN (col n e) : Int) = chi n e := colN_eq (col_isC hv) fun i hi => ((col_spec hv).2.2 i hi).2

/-! Greedy coloring. -/
theorem jn_symm {e : List (Int × Int)} {u v : Int} (h : jn e u v) : jn e v u := by
  unfold jn at *; rw [Int.min_comm, Int.max_comm]; exact h
theorem jn_lt {e : List (Int × Int)} {u v : Int} (h : u < v) : jn e u v ↔ (u, v) ∈ e := by
  unfold jn; rw [Int.min_eq_left (by omega), Int.max_eq_right (by omega)]
theorem prm_all {l : List Int} {N : Nat} (hp : Prm l N) {u : Nat} (hu : u < N) : ∃ j, j < N ∧ l.getD j 0 = u := by
  have h2 := (prm_srt.1 hp).2 u hu
  have hl := srt_len l
  have hm := (srt_perm l).mem_iff.1 (mem_getD (d := (0 : Int)) (show u < (srt l).length by have := hp.1; omega))
  rw [h2] at hm
  obtain ⟨k, hk, e1⟩ := List.getElem_of_mem hm
  exact ⟨k, by have := hp.1; omega, by simp [List.getD, hk, e1]⟩
/-- What holds of the first i steps. -/
theorem grd_inv {n : Int} {e : List (Int × Int)} (hv : Vd n e) {l : List Int} {N : Nat} (hN : (N : Int) = n) (hp : Prm l N) : ∀ i, i ≤ N →
    (∀ u w : Nat, u < N → w < N → u ≠ w → jn e u w → 0 ≤ (grd e l N i).getD u 0 → 0 ≤ (grd e l N i).getD w 0 → (grd e l N i).getD u 0 ≠ (grd e l N i).getD w 0) ∧
    (∀ u : Nat, u < N → (0 ≤ (grd e l N i).getD u 0 ↔ ∃ j, j < i ∧ l.getD j 0 = u)) := by
  have h12 := hv.2.1
  have hpr : ∀ i, i < N → 0 ≤ l.getD i 0 ∧ l.getD i 0 < N := fun i hi => (hp.2 i hi).1
  intro i
  induction i with
  | zero =>
    intro _
    have h0 : ∀ u, u < N → (grd e l N 0).getD u 0 = -1 := fun u hu => by simp [grd, List.getD, hu]
    refine ⟨fun u w hu _ _ _ h => by rw [h0 u hu] at h; omega, fun u hu => ?_⟩
    rw [h0 u hu]
    exact ⟨fun h => by omega, fun ⟨j, hj, _⟩ => by omega⟩
  | succ i ih =>
    intro hi
    obtain ⟨i1, i2⟩ := ih (by omega)
    have hlt := grd_lt (e := e) hpr (by omega) i (by omega)
    have hgl := grd_len e l N i
    obtain ⟨c, hcd⟩ : ∃ c, c = grd e l N i := ⟨_, rfl⟩
    obtain ⟨v, hvd⟩ : ∃ v : Nat, (v : Int) = l.getD i 0 := ⟨(l.getD i 0).toNat, by have := hpr i (by omega); omega⟩
    have hvr := hpr i (by omega)
    obtain ⟨f, f1, f2, f3, f4⟩ := fcol_spec (e := e) (c := c) (v := l.getD i 0) (i := i) (fun u hu => by rw [hcd] at hu ⊢; exact (hlt u (by rw [hgl] at hu; exact hu)).2) (by omega)
    have egr : grd e l N (i + 1) = c.set v f := by rw [grd, ← hcd, f1, ← hvd, Int.toNat_natCast]
    have hvN : v < N := by omega
    rw [← hcd] at hgl hlt i1 i2
    have hg : ∀ u, (grd e l N (i + 1)).getD u 0 = if v = u then (f : Int) else c.getD u 0 := fun u => by rw [egr, getD_setI (by omega)]
    have nb : ∀ u : Nat, u < N → jn e u v → c.getD u 0 ≠ f := fun u hu hj hh => by
      rw [Bool.eq_false_iff] at f3
      exact f3 (blk_iff.2 ⟨u, by omega, hh, by rw [← hvd]; exact hj⟩)
    refine ⟨fun u w hu hw huw hj h1 h2 => ?_, fun u hu => ?_⟩
    · rw [hg] at h1 ⊢
      rw [hg] at h2 ⊢
      by_cases a : v = u
      · subst a
        rw [if_pos rfl, if_neg huw]
        exact fun hh => nb w hw (jn_symm hj) hh.symm
      · rw [if_neg a] at h1 ⊢
        by_cases b : v = w
        · subst b
          rw [if_pos rfl]
          exact nb u hu hj
        · rw [if_neg b] at h2 ⊢
          exact i1 u w hu hw huw hj h1 h2
    · rw [hg]
      by_cases a : v = u
      · subst a
        rw [if_pos rfl]
        exact ⟨fun _ => ⟨i, by omega, hvd.symm⟩, fun _ => by omega⟩
      · rw [if_neg a, i2 u hu]
        constructor
        · rintro ⟨j, a1, a2⟩; exact ⟨j, by omega, a2⟩
        · rintro ⟨j, a1, a2⟩
          by_cases hj : j = i
          · subst hj; rw [a2] at hvd; omega
          · exact ⟨j, by omega, a2⟩
theorem grd_isC {n : Int} {e : List (Int × Int)} (hv : Vd n e) {l : List Int} (hp : Prm l n.toNat) : isC n e (grd e l n.toNat n.toNat) ∧ ∀ u, u < n.toNat → (grd e l n.toNat n.toNat).getD u 0 < n := by
  have h0 := hv.1
  have h12 := hv.2.1
  have hN : ((n.toNat : Nat) : Int) = n := by omega
  obtain ⟨i1, i2⟩ := grd_inv hv hN hp n.toNat (Nat.le_refl _)
  have hpr : ∀ i, i < n.toNat → 0 ≤ l.getD i 0 ∧ l.getD i 0 < n.toNat := fun i hi => (hp.2 i hi).1
  have hlt := grd_lt (e := e) hpr (by omega) n.toNat (Nat.le_refl _)
  have hgl := grd_len e l n.toNat n.toNat
  have hpos : ∀ u, u < n.toNat → 0 ≤ (grd e l n.toNat n.toNat).getD u 0 := fun u hu => (i2 u hu).2 (prm_all hp hu)
  refine ⟨(isC_iff hv).2 ⟨by omega, fun i hi => hpos i (by omega), fun i j hij hj he => ?_⟩, fun u hu => by have := (hlt u hu).2; omega⟩
  exact i1 i j (by omega) (by omega) (by omega) ((jn_lt (by omega)).2 he) (hpos i (by omega)) (hpos j (by omega))
/-- In an order in which the colors of a coloring do not decrease, greedy coloring gives no greater ones. -/
theorem grd_le {n : Int} {e : List (Int × Int)} (hv : Vd n e) {l c : List Int} {N : Nat} (hN : (N : Int) = n) (hp : Prm l N) (hc : isC n e c) (hs : ∀ j i, j < i → i < N → c.getD (l.getD j 0).toNat 0 ≤ c.getD (l.getD i 0).toNat 0) :
    ∀ i, i ≤ N → ∀ u, u < N → (grd e l N i).getD u 0 ≤ c.getD u 0 := by
  have h12 := hv.2.1
  obtain ⟨c1, c2, c3⟩ := (isC_iff hv).1 hc
  have hpr : ∀ i, i < N → 0 ≤ l.getD i 0 ∧ l.getD i 0 < N := fun i hi => (hp.2 i hi).1
  intro i
  induction i with
  | zero => intro _ u hu; have := c2 u (by omega); simp [grd, List.getD, hu]; simp only [List.getD_eq_getElem?_getD] at this; omega
  | succ i ih =>
    intro hi u hu
    have ih := ih (by omega)
    obtain ⟨i1, i2⟩ := grd_inv hv hN hp i (by omega)
    have hlt := grd_lt (e := e) hpr (by omega) i (by omega)
    have hgl := grd_len e l N i
    obtain ⟨d, hd⟩ : ∃ d, d = grd e l N i := ⟨_, rfl⟩
    obtain ⟨v, hvd⟩ : ∃ v : Nat, (v : Int) = l.getD i 0 := ⟨(l.getD i 0).toNat, by have := hpr i (by omega); omega⟩
    have hvr := hpr i (by omega)
    obtain ⟨f, f1, f2, f3, f4⟩ := fcol_spec (e := e) (c := d) (v := l.getD i 0) (i := i) (fun u hu => by rw [hd] at hu ⊢; exact (hlt u (by rw [hgl] at hu; exact hu)).2) (by omega)
    have egr : grd e l N (i + 1) = d.set v f := by rw [grd, ← hd, f1, ← hvd, Int.toNat_natCast]
    have hvN : v < N := by omega
    rw [← hd] at hgl i2 ih
    rw [egr, getD_setI (by omega)]
    split
    · rename_i hh
      subst hh
      have cv := c2 v (by omega)
      rcases Int.lt_or_le (c.getD v 0) f with hlt2 | hge
      · exfalso
        have hb := f4 (c.getD v 0).toNat (by omega)
        rw [show (((c.getD v 0).toNat : Nat) : Int) = c.getD v 0 by omega] at hb
        obtain ⟨w, w1, w2, w3⟩ := blk_iff.1 hb
        rw [← hvd] at w3
        have wN : w < N := by omega
        obtain ⟨j, j1, j2⟩ := (i2 w wN).1 (by omega)
        have hne : w ≠ v := fun hh => by
          subst hh
          exact (hp.2 i (by omega)).2 j j1 (by rw [j2, hvd])
        have hs1 := hs j i j1 (by omega)
        rw [j2, ← hvd, Int.toNat_natCast, Int.toNat_natCast] at hs1
        have hdc := ih w wN
        have hcc : c.getD w 0 ≠ c.getD v 0 := by
          rcases Nat.lt_or_gt_of_ne hne with h1 | h1
          · exact c3 w v h1 (by omega) ((jn_lt (by omega)).1 w3)
          · exact (c3 v w h1 (by omega) ((jn_lt (by omega)).1 (jn_symm w3))).symm
        omega
      · exact hge
    · exact ih u hu
end Go.Proofs.Yticiimmfjdkimaa
