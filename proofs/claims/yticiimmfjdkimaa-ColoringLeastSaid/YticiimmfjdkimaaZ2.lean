/- Colorings: how many colors they have, and what greedy coloring reaches. No program in sight. -/
import Derived.Test.YticiimmfjdkimaaT3
import Derived.Test.YticiimmfjdkimaaD11
import Derived.Test.YticiimmfjdkimaaD10
namespace Go.Proofs.Yticiimmfjdkimaa
open Go Go.Abs
set_option linter.unusedSimpArgs false
set_option linter.unusedVariables false
set_option maxRecDepth 20000

theorem sub_len : ∀ {A B : List Int}, A.Nodup → (∀ x ∈ A, x ∈ B) → A.length ≤ B.length := by
  intro A
  induction A with
  | nil => intro B _ _; simp
  | cons a A ih =>
    intro B hn hs
    obtain ⟨h1, h2⟩ := List.nodup_cons.1 hn
    have hm := hs a (by simp)
    have := ih (B := B.erase a) h2 (fun x hx => by
      have hne : x ≠ a := fun hh => by subst hh; exact h1 hx
      exact (List.mem_erase_of_ne hne).2 (hs x (by simp [hx])))
    rw [List.length_erase_of_mem hm] at this
    have hp := List.length_pos_of_mem hm
    simp only [List.length_cons]
    omega
def upN (N : Nat) : List Int := (List.range N).map fun (j : Nat) => (j : Int)
theorem mem_upN {N : Nat} {x : Int} : x ∈ upN N ↔ 0 ≤ x ∧ x < N := by
  unfold upN
  rw [List.mem_map]
  constructor
  · rintro ⟨j, hj, rfl⟩; rw [List.mem_range] at hj; omega
  · intro h; exact ⟨x.toNat, by rw [List.mem_range]; omega, by omega⟩
theorem upN_len (N : Nat) : (upN N).length = N := by simp [upN]
theorem upN_nodup (N : Nat) : (upN N).Nodup := by
  unfold upN
  refine List.pairwise_map.2 ((List.nodup_range (n := N)).imp fun hh => ?_)
  omega
theorem mem_dsK {c : List Int} {x : Int} : ∀ {i : Nat}, x ∈ dsK c i ↔ (0 ≤ x ∧ x ≤ 15) ∧ ∃ j, j < i ∧ c.getD j 0 = x := by
  intro i
  induction i with
  | zero => simp [dsK]
  | succ i ih =>
    unfold dsK
    split
    · rename_i hc
      rw [List.mem_append, ih, List.mem_singleton]
      constructor
      · rintro (⟨h, j, a, b⟩ | rfl)
        · exact ⟨h, j, by omega, b⟩
        · exact ⟨hc.1, i, by omega, rfl⟩
      · rintro ⟨h, j, a, b⟩
        by_cases hj : j = i
        · subst hj; exact .inr b.symm
        · exact .inl ⟨h, j, by omega, b⟩
    · rename_i hc
      rw [ih]
      constructor
      · rintro ⟨h, j, a, b⟩; exact ⟨h, j, by omega, b⟩
      · rintro ⟨h, j, a, b⟩
        by_cases hj : j = i
        · subst hj
          have hin : c.getD j 0 ∈ dsK c j := Classical.byContradiction fun hh => hc ⟨by rw [b]; exact h, hh⟩
          rw [b] at hin
          exact ih.1 hin
        · exact ⟨h, j, by omega, b⟩
theorem dsK_nodup (c : List Int) : ∀ i, (dsK c i).Nodup := by
  intro i
  induction i with
  | zero => simp [dsK]
  | succ i ih =>
    unfold dsK
    split
    · rename_i hc
      refine List.nodup_append.2 ⟨ih, by simp, fun a ha b hb => ?_⟩
      rw [List.mem_singleton] at hb
      subst hb
      exact fun hh => by subst hh; exact hc.2 ha
    · exact ih
theorem colN_le {c : List Int} {k : Nat} (h : ∀ i, i < c.length → 0 ≤ c.getD i 0 ∧ c.getD i 0 < k) : colN c ≤ k := by
  have := sub_len (dsK_nodup c c.length) (B := upN k) (fun x hx => by
    obtain ⟨_, j, hj, e⟩ := mem_dsK.1 hx
    rw [← e]
    exact mem_upN.2 (h j hj))
  rw [upN_len] at this
  exact this
theorem colN_kc {e : List (Int × Int)} {c : List Int} (hp : Pp e c) (h : ∀ i, i < c.length → 0 ≤ c.getD i 0 ∧ c.getD i 0 ≤ 15) : Kc c.length e (colN c) := by
  obtain ⟨L, hL⟩ : ∃ L, L = dsK c c.length := ⟨_, rfl⟩
  have hm : ∀ i, i < c.length → ∃ f : Nat, findI (fun k => decide (L.getD k 0 = c.getD i 0)) L.length = f ∧ f < L.length ∧ L.getD f 0 = c.getD i 0 := fun i hi => by
    have h1 : c.getD i 0 ∈ L := by rw [hL]; exact mem_dsK.2 ⟨h i hi, i, hi, rfl⟩
    obtain ⟨k, hk, e1⟩ := List.getElem_of_mem h1
    have e2 : L.getD k 0 = c.getD i 0 := by simp [List.getD, hk, e1]
    obtain ⟨f, f1, f2, f3, _⟩ := findI_spec (p := fun k => decide (L.getD k 0 = c.getD i 0)) hk (decide_eq_true e2)
    exact ⟨f, f1, by omega, of_decide_eq_true f3⟩
  refine ⟨c.map fun x => findI (fun k => decide (L.getD k 0 = x)) L.length, by simp, fun i j hij hj he => ?_, fun i hi => ?_⟩
  · rw [List.length_map] at hj
    rw [getD_map _ _ (by omega), getD_map _ _ hj]
    obtain ⟨f, f1, _, f3⟩ := hm i (by omega)
    obtain ⟨g, g1, _, g3⟩ := hm j hj
    rw [f1, g1]
    intro hh
    have : f = g := by omega
    subst this
    exact hp i j hij hj he (f3.symm.trans g3)
  · rw [List.length_map] at hi
    rw [getD_map _ _ hi]
    obtain ⟨f, f1, f2, _⟩ := hm i hi
    rw [f1]
    unfold colN
    rw [← hL]
    omega
theorem isC_iff {n : Int} {e : List (Int × Int)} {c : List Int} (hv : Vd n e) : isC n e c ↔ (c.length : Int) = n ∧ (∀ i, i < c.length → 0 ≤ c.getD i 0) ∧ Pp e c := by
  constructor
  · rintro ⟨_, h1, h2, h3⟩
    refine ⟨h1, h2, fun i j hij hj he => ?_⟩
    obtain ⟨k, hk, e1⟩ := mem_getD_iff.1 he
    have := h3 k hk
    rw [e1] at this
    simpa using this
  · rintro ⟨h1, h2, h3⟩
    refine ⟨hv, h1, h2, fun k hk => ?_⟩
    have hp := vd_at hv hk
    have := h3 (e.getD k (0, 0)).1.toNat (e.getD k (0, 0)).2.toNat (by omega) (by omega) (by
      rw [show (((e.getD k (0, 0)).1.toNat : Nat) : Int) = (e.getD k (0, 0)).1 by omega, show (((e.getD k (0, 0)).2.toNat : Nat) : Int) = (e.getD k (0, 0)).2 by omega]
      exact mem_getD hk)
    exact this
theorem col_spec {n : Int} {e : List (Int × Int)} (hv : Vd n e) : (col n e).length = n.toNat ∧ Pp e (col n e) ∧ Rg (chi n e) (col n e) := by
  obtain ⟨_, _, h3, _⟩ := chi_kc hv
  have := (ext_iff _ _ _).2 h3
  unfold col
  cases hx : ext e (chi n e) n.toNat [] with
  | none => rw [hx] at this; cases this
  | some r =>
    have := ext_sound e (chi n e) n.toNat [] r (fun i j _ hj _ => by simp at hj) (fun i hi => by simp at hi) hx
    simpa using this
/-- A coloring with small colors has at least the least number of colors. -/
theorem colN_ge {n : Int} {e : List (Int × Int)} {c : List Int} (hc : isC n e c) (h : ∀ i, i < c.length → c.getD i 0 ≤ 15) : chi n e ≤ colN c := by
  have hv := hc.1
  obtain ⟨h1, h2, h3⟩ := (isC_iff hv).1 hc
  have := colN_kc h3 (fun i hi => ⟨h2 i hi, h i hi⟩)
  rw [show c.length = n.toNat by omega] at this
  exact (chi_kc hv).2.2.2 _ (by omega) this
theorem colN_eq {n : Int} {e : List (Int × Int)} {c : List Int} (hc : isC n e c) (h : ∀ i, i < c.length → c.getD i 0 < chi n e) : (colN c : Int) = chi n e := by
  have hv := hc.1
  obtain ⟨k0, k1, _, _⟩ := chi_kc hv
  have h12 := hv.2.1
  have g := colN_ge hc (fun i hi => by have := h i hi; omega)
  have l := colN_le (c := c) (k := (chi n e).toNat) (fun i hi => by have := h i hi; have := hc.2.2.1 i hi; omega)
  omega
theorem col_isC {n : Int} {e : List (Int × Int)} (hv : Vd n e) : isC n e (col n e) := by
  obtain ⟨h1, h2, h3⟩ := col_spec hv
  have := hv.1
  exact (isC_iff hv).2 ⟨by omega, fun i hi => (h3 i hi).1, h2⟩
theorem col_colN {n : Int} {e : List (Int × Int)} (hv : Vd n e) : (colN (col n e) : Int) = chi n e := colN_eq (col_isC hv) fun i hi => ((col_spec hv).2.2 i hi).2

/-! Greedy coloring. -/
theorem jn_symm {e : List (Int × Int)} {u v : Int} (h : jn e u v) : jn e v u := by
  unfold jn at *; rw [Int.min_comm, Int.max_comm]; exact h
theorem jn_lt {e : List (Int × Int)} {u v : Int} (h : u < v) : jn e u v ↔ (u, v) ∈ e := by
  unfold jn; rw [Int.min_eq_left (by omega), Int.max_eq_right (by omega)]
theorem prm_all {l : List Int} {N : Nat} (hp : Prm l N) {u : Nat} (hu : u < N) : ∃ j, j < N ∧ l.getD j 0 = u := by
  have h2 := (prm_srt.1 hp).2 u hu
  have hl := srt_len l
  have hm := (srt_perm l).mem_iff.1 (mem_getD (d := (0 : Int)) (show u < (srt l).length by have := hp.1; omega))
  rw [h2] at hm
  obtain ⟨k, hk, e1⟩ := List.getElem_of_mem hm
  exact ⟨k, by have := hp.1; omega, by simp [List.getD, hk, e1]⟩
/-- What holds of the first i steps. -/
theorem grd_inv {n : Int} {e : List (Int × Int)} (hv : Vd n e) {l : List Int} {N : Nat} (hN : (N : Int) = n) (hp : Prm l N) : ∀ i, i ≤ N →
    (∀ u w : Nat, u < N → w < N → u ≠ w → jn e u w → 0 ≤ (grd e l N i).getD u 0 → 0 ≤ (grd e l N i).getD w 0 → (grd e l N i).getD u 0 ≠ (grd e l N i).getD w 0) ∧
    (∀ u : Nat, u < N → (0 ≤ (grd e l N i).getD u 0 ↔ ∃ j, j < i ∧ l.getD j 0 = u)) := by
  have h12 := hv.2.1
  have hpr : ∀ i, i < N → 0 ≤ l.getD i 0 ∧ l.getD i 0 < N := fun i hi => (hp.2 i hi).1
  intro i
  induction i with
  | zero =>
    intro _
    have h0 : ∀ u, u < N → (grd e l N 0).getD u 0 = -1 := fun u hu => by simp [grd, List.getD, hu]
    refine ⟨fun u w hu _ _ _ h => by rw [h0 u hu] at h; omega, fun u hu => ?_⟩
    rw [h0 u hu]
    exact ⟨fun h => by omega, fun ⟨j, hj, _⟩ => by omega⟩
  | succ i ih =>
    intro hi
    obtain ⟨i1, i2⟩ := ih (by omega)
    have hlt := grd_lt (e := e) hpr (by omega) i (by omega)
    have hgl := grd_len e l N i
    obtain ⟨c, hcd⟩ : ∃ c, c = grd e l N i := ⟨_, rfl⟩
    obtain ⟨v, hvd⟩ : ∃ v : Nat, (v : Int) = l.getD i 0 := ⟨(l.getD i 0).toNat, by have := hpr i (by omega); omega⟩
    have hvr := hpr i (by omega)
    obtain ⟨f, f1, f2, f3, f4⟩ := fcol_spec (e := e) (c := c) (v := l.getD i 0) (i := i) (fun u hu => by rw [hcd] at hu ⊢; exact (hlt u (by rw [hgl] at hu; exact hu)).2) (by omega)
    have egr : grd e l N (i + 1) = c.set v f := by rw [grd, ← hcd, f1, ← hvd, Int.toNat_natCast]
    have hvN : v < N := by omega
    rw [← hcd] at hgl hlt i1 i2
    have hg : ∀ u, (grd e l N (i + 1)).getD u 0 = if v = u then (f : Int) else c.getD u 0 := fun u => by rw [egr, getD_setI (by omega)]
    have nb : ∀ u : Nat, u < N → jn e u v → c.getD u 0 ≠ f := fun u hu hj hh => by
      rw [Bool.eq_false_iff] at f3
      exact f3 (blk_iff.2 ⟨u, by omega, hh, by rw [← hvd]; exact hj⟩)
    refine ⟨fun u w hu hw huw hj h1 h2 => ?_, fun u hu => ?_⟩
    · rw [hg] at h1 ⊢
      rw [hg] at h2 ⊢
      by_cases a : v = u
      · subst a
        rw [if_pos rfl, if_neg huw]
        exact fun hh => nb w hw (jn_symm hj) hh.symm
      · rw [if_neg a] at h1 ⊢
        by_cases b : v = w
        · subst b
          rw [if_pos rfl]
          exact nb u hu hj
        · rw [if_neg b] at h2 ⊢
          exact i1 u w hu hw huw hj h1 h2
    · rw [hg]
      by_cases a : v = u
      · subst a
        rw [if_pos rfl]
        exact ⟨fun _ => ⟨i, by omega, hvd.symm⟩, fun _ => by omega⟩
      · rw [if_neg a, i2 u hu]
        constructor
        · rintro ⟨j, a1, a2⟩; exact ⟨j, by omega, a2⟩
        · rintro ⟨j, a1, a2⟩
          by_cases hj : j = i
          · subst hj; rw [a2] at hvd; omega
          · exact ⟨j, by omega, a2⟩
theorem grd_isC {n : Int} {e : List (Int × Int)} (hv : Vd n e) {l : List Int} (hp : Prm l n.toNat) : isC n e (grd e l n.toNat n.toNat) ∧ ∀ u, u < n.toNat → (grd e l n.toNat n.toNat).getD u 0 < n := by
  have h0 := hv.1
  have h12 := hv.2.1
  have hN : ((n.toNat : Nat) : Int) = n := by omega
  obtain ⟨i1, i2⟩ := grd_inv hv hN hp n.toNat (Nat.le_refl _)
  have hpr : ∀ i, i < n.toNat → 0 ≤ l.getD i 0 ∧ l.getD i 0 < n.toNat := fun i hi => (hp.2 i hi).1
  have hlt := grd_lt (e := e) hpr (by omega) n.toNat (Nat.le_refl _)
  have hgl := grd_len e l n.toNat n.toNat
  have hpos : ∀ u, u < n.toNat → 0 ≤ (grd e l n.toNat n.toNat).getD u 0 := fun u hu => (i2 u hu).2 (prm_all hp hu)
  refine ⟨(isC_iff hv).2 ⟨by omega, fun i hi => hpos i (by omega), fun i j hij hj he => ?_⟩, fun u hu => by have := (hlt u hu).2; omega⟩
  exact i1 i j (by omega) (by omega) (by omega) ((jn_lt (by omega)).2 he) (hpos i (by omega)) (hpos j (by omega))
/-- In an order in which the colors of a coloring do not decrease, greedy coloring gives no greater ones. -/
theorem grd_le {n : Int} {e : List (Int × Int)} (hv : Vd n e) {l c : List Int} {N : Nat} (hN : (N : Int) = n) (hp : Prm l N) (hc : isC n e c) (hs : ∀ j i, j < i → i < N → c.getD (l.getD j 0).toNat 0 ≤ c.getD (l.getD i 0).toNat 0) :
    ∀ i, i ≤ N → ∀ u, u < N → (grd e l N i).getD u 0 ≤ c.getD u 0 := by
  have h12 := hv.2.1
  obtain ⟨c1, c2, c3⟩ := (isC_iff hv).1 hc
  have hpr : ∀ i, i < N → 0 ≤ l.getD i 0 ∧ l.getD i 0 < N := fun i hi => (hp.2 i hi).1
  intro i
  induction i with
  | zero => intro _ u hu; have := c2 u (by omega); simp [grd, List.getD, hu]; simp only [List.getD_eq_getElem?_getD] at this; omega
  | succ i ih =>
    intro hi u hu
    have ih := ih (by omega)
    obtain ⟨i1, i2⟩ := grd_inv hv hN hp i (by omega)
    have hlt := grd_lt (e := e) hpr (by omega) i (by omega)
    have hgl := grd_len e l N i
    obtain ⟨d, hd⟩ : ∃ d, d = grd e l N i := ⟨_, rfl⟩
    obtain ⟨v, hvd⟩ : ∃ v : Nat, (v : Int) = l.getD i 0 := ⟨(l.getD i 0).toNat, by have := hpr i (by omega); omega⟩
    have hvr := hpr i (by omega)
    obtain ⟨f, f1, f2, f3, f4⟩ := fcol_spec (e := e) (c := d) (v := l.getD i 0) (i := i) (fun u hu => by rw [hd] at hu ⊢; exact (hlt u (by rw [hgl] at hu; exact hu)).2) (by omega)
    have egr : grd e l N (i + 1) = d.set v f := by rw [grd, ← hd, f1, ← hvd, Int.toNat_natCast]
    have hvN : v < N := by omega
    rw [← hd] at hgl i2 ih
    rw [egr, getD_setI (by omega)]
    split
    · rename_i hh
      subst hh
      have cv := c2 v (by omega)
      rcases Int.lt_or_le (c.getD v 0) f with hlt2 | hge
      · exfalso
        have hb := f4 (c.getD v 0).toNat (by omega)
        rw [show (((c.getD v 0).toNat : Nat) : Int) = c.getD v 0 by omega] at hb
        obtain ⟨w, w1, w2, w3⟩ := blk_iff.1 hb
        rw [← hvd] at w3
        have wN : w < N := by omega
        obtain ⟨j, j1, j2⟩ := (i2 w wN).1 (by omega)
        have hne : w ≠ v := fun hh => by
          subst hh
          exact (hp.2 i (by omega)).2 j j1 (by rw [j2, hvd])
        have hs1 := hs j i j1 (by omega)
        rw [j2, ← hvd, Int.toNat_natCast, Int.toNat_natCast] at hs1
        have hdc := ih w wN
        have hcc : c.getD w 0 ≠ c.getD v 0 := by
          rcases Nat.lt_or_gt_of_ne hne with h1 | h1
          · exact c3 w v h1 (by omega) ((jn_lt (by omega)).1 w3)
          · exact (c3 v w h1 (by omega) ((jn_lt (by omega)).1 (jn_symm w3))).symm
        omega
      · exact hge
    · exact ih u hu
end Go.Proofs.Yticiimmfjdkimaa
namespace Go.Proofs.Yticiimmfjdkimaa
open Go Go.Abs
set_option linter.unusedSimpArgs false
set_option linter.unusedVariables false
set_option maxRecDepth 20000

theorem prm_of {l : List Int} {N : Nat} (hn : l.Nodup) (hm : ∀ x, x ∈ l ↔ 0 ≤ x ∧ x < N) : Prm l N := by
  have h1 := sub_len hn (B := upN N) fun x hx => mem_upN.2 ((hm x).1 hx)
  have h2 := sub_len (upN_nodup N) (B := l) fun x hx => (hm x).2 (mem_upN.1 hx)
  rw [upN_len] at h1 h2
  have hl : l.length = N := by omega
  refine ⟨hl, fun i hi => ⟨(hm _).1 (mem_getD (by omega)), fun k hk hh => ?_⟩⟩
  have hi2 : i < l.length := by omega
  have hk2 : k < l.length := by omega
  simp only [List.getD_eq_getElem?_getD, List.getElem?_eq_getElem hi2, List.getElem?_eq_getElem hk2, Option.getD_some] at hh
  have := (List.getElem_inj hn).1 hh
  omega
/-- The vertices with one color, and those with the first colors. -/
def oI (c : List Int) (x : Nat) : Nat → List Int
  | 0 => []
  | i + 1 => if c.getD i 0 = x then oI c x i ++ [(i : Int)] else oI c x i
def oC (c : List Int) : Nat → List Int
  | 0 => []
  | x + 1 => oC c x ++ oI c x c.length
theorem mem_oI {c : List Int} {x : Nat} {y : Int} : ∀ {i : Nat}, y ∈ oI c x i ↔ ∃ j : Nat, j < i ∧ y = j ∧ c.getD j 0 = x := by
  intro i
  induction i with
  | zero => simp [oI]
  | succ i ih =>
    unfold oI
    split
    · rename_i hc
      rw [List.mem_append, ih, List.mem_singleton]
      constructor
      · rintro (⟨j, a, b⟩ | rfl)
        · exact ⟨j, by omega, b⟩
        · exact ⟨i, by omega, rfl, hc⟩
      · rintro ⟨j, a, b, d⟩
        by_cases hj : j = i
        · subst hj; exact .inr b
        · exact .inl ⟨j, by omega, b, d⟩
    · rename_i hc
      rw [ih]
      constructor
      · rintro ⟨j, a, b⟩; exact ⟨j, by omega, b⟩
      · rintro ⟨j, a, b, d⟩
        by_cases hj : j = i
        · subst hj; exact absurd d hc
        · exact ⟨j, by omega, b, d⟩
theorem oI_nodup (c : List Int) (x : Nat) : ∀ i, (oI c x i).Nodup := by
  intro i
  induction i with
  | zero => simp [oI]
  | succ i ih =>
    unfold oI
    split
    · refine List.nodup_append.2 ⟨ih, by simp, fun a ha b hb hh => ?_⟩
      rw [List.mem_singleton] at hb
      obtain ⟨j, a1, a2, _⟩ := mem_oI.1 ha
      omega
    · exact ih
theorem mem_oC {c : List Int} {y : Int} : ∀ {X : Nat}, y ∈ oC c X ↔ ∃ j : Nat, j < c.length ∧ y = j ∧ 0 ≤ c.getD j 0 ∧ c.getD j 0 < X := by
  intro X
  induction X with
  | zero => simp only [oC, List.not_mem_nil, false_iff]; rintro ⟨j, _, _, a, b⟩; omega
  | succ X ih =>
    unfold oC
    rw [List.mem_append, ih, mem_oI]
    constructor
    · rintro (⟨j, a, b, d, f⟩ | ⟨j, a, b, d⟩)
      · exact ⟨j, a, b, d, by omega⟩
      · exact ⟨j, a, b, by omega, by omega⟩
    · rintro ⟨j, a, b, d, f⟩
      by_cases hj : c.getD j 0 = X
      · exact .inr ⟨j, a, b, hj⟩
      · exact .inl ⟨j, a, b, d, by omega⟩
theorem oC_nodup (c : List Int) : ∀ X, (oC c X).Nodup := by
  intro X
  induction X with
  | zero => simp [oC]
  | succ X ih =>
    unfold oC
    refine List.nodup_append.2 ⟨ih, oI_nodup c X _, fun a ha b hb hh => ?_⟩
    obtain ⟨j, _, a2, _, a4⟩ := mem_oC.1 ha
    obtain ⟨k, _, b2, b3⟩ := mem_oI.1 hb
    have : j = k := by omega
    subst this
    omega
theorem oC_pw (c : List Int) : ∀ X, (oC c X).Pairwise fun a b => c.getD a.toNat 0 ≤ c.getD b.toNat 0 := by
  intro X
  induction X with
  | zero => simp [oC]
  | succ X ih =>
    unfold oC
    refine List.pairwise_append.2 ⟨ih, ?_, fun a ha b hb => ?_⟩
    · refine List.pairwise_iff_getElem.2 fun i j hi hj _ => ?_
      obtain ⟨k, _, a2, a3⟩ := mem_oI.1 (List.getElem_mem hi)
      obtain ⟨m, _, b2, b3⟩ := mem_oI.1 (List.getElem_mem hj)
      rw [a2, b2, Int.toNat_natCast, Int.toNat_natCast, a3, b3]
      exact Int.le_refl _
    · obtain ⟨j, _, a2, _, a4⟩ := mem_oC.1 ha
      obtain ⟨k, _, b2, b3⟩ := mem_oI.1 hb
      rw [a2, b2, Int.toNat_natCast, Int.toNat_natCast, b3]
      omega
theorem oC_prm {c : List Int} (h : ∀ i, i < c.length → 0 ≤ c.getD i 0 ∧ c.getD i 0 < 12) : Prm (oC c 12) c.length := by
  refine prm_of (oC_nodup c 12) fun x => ?_
  rw [mem_oC]
  constructor
  · rintro ⟨j, a, b, _⟩; omega
  · intro hx
    refine ⟨x.toNat, by omega, by omega, ?_⟩
    have := h x.toNat (by omega)
    exact ⟨this.1, by omega⟩
theorem pw_at {α : Type} {R : α → α → Prop} {l : List α} (h : l.Pairwise R) (d : α) {i j : Nat} (hij : i < j) (hj : j < l.length) : R (l.getD i d) (l.getD j d) := by
  have := List.pairwise_iff_getElem.1 h i j (by omega) hj hij
  simp only [List.getD_eq_getElem?_getD, List.getElem?_eq_getElem hj, List.getElem?_eq_getElem (show i < l.length by omega), Option.getD_some]
  exact this
theorem oI_len (c : List Int) (x i : Nat) : (oI c x i).length ≤ i := by
  induction i with
  | zero => simp [oI]
  | succ i ih => unfold oI; split
                 · simp only [List.length_append, List.length_singleton]; omega
                 · omega
theorem oC_len (c : List Int) (x : Nat) : (oC c x).length ≤ x * c.length := by
  induction x with
  | zero => simp [oC]
  | succ x ih => have := oI_len c x c.length; simp only [oC, List.length_append, Nat.add_mul, Nat.one_mul]; omega

theorem r_law_ColoringOrder (n : Int) (n1 : Bool) (e : List (Int × Int)) (u1 : Tail) (h : AH) : RCall Try.prog n_law_ColoringOrderW [I n, .sl n1 e.length (prs e) u1] h (.bool true) := by
  refine RCall.of hm cF_law_ColoringOrderW (by simp [g_law_ColoringOrderW]) fun hw h' hl => ?_
  simp only [F_law_ColoringOrderW, g_law_ColoringOrderW, go_sem, reduceIte, Nat.reduceEqDiff, Nat.reduceAdd, Nat.reduceMul, Nat.reduceSub, reduceCtorEq, Nat.reduceLeDiff, Nat.reduceLT, Int.reduceLT, Int.reduceLE, Int.reduceToNat, Int.reduceAdd, Int.reduceSub, Int.reduceNeg, Int.reduceMul, Int.reduceEq, ← Bool.decide_and, ← Bool.decide_or, ↓tq_n, ↓tq_e, ↓tq_r, ↓bq_n, ↓bq_e, ↓bq_r, ↓rq_n, ↓rq_r, ↓rq_e]
  refine CallG.mk (r_law_awake _) ?_
  simp only [F_law_ColoringOrderW, g_law_ColoringOrderW, go_sem, reduceIte, Nat.reduceEqDiff, Nat.reduceAdd, Nat.reduceMul, Nat.reduceSub, reduceCtorEq, Nat.reduceLeDiff, Nat.reduceLT, Int.reduceLT, Int.reduceLE, Int.reduceToNat, Int.reduceAdd, Int.reduceSub, Int.reduceNeg, Int.reduceMul, Int.reduceEq, ← Bool.decide_and, ← Bool.decide_or, ↓tq_n, ↓tq_e, ↓tq_r, ↓bq_n, ↓bq_e, ↓bq_r, ↓rq_n, ↓rq_r, ↓rq_e]
  refine CallG.mk (r_law_few n1 e.length (prs e) u1 _) ?_
  by_cases k1 : (e.length : Int) ≤ 80
  case neg =>
    rw [decide_eq_false k1]
    simp only [F_law_ColoringOrderW, g_law_ColoringOrderW, go_sem, reduceIte, Nat.reduceEqDiff, Nat.reduceAdd, Nat.reduceMul, Nat.reduceSub, reduceCtorEq, Nat.reduceLeDiff, Nat.reduceLT, Int.reduceLT, Int.reduceLE, Int.reduceToNat, Int.reduceAdd, Int.reduceSub, Int.reduceNeg, Int.reduceMul, Int.reduceEq, ← Bool.decide_and, ← Bool.decide_or, ↓tq_n, ↓tq_e, ↓tq_r, ↓bq_n, ↓bq_e, ↓bq_r, ↓rq_n, ↓rq_r, ↓rq_e]
    refine CallG.mk (r_law_awake _) ?_
    simp only [F_law_ColoringOrderW, g_law_ColoringOrderW, go_sem, reduceIte, Nat.reduceEqDiff, Nat.reduceAdd, Nat.reduceMul, Nat.reduceSub, reduceCtorEq, Nat.reduceLeDiff, Nat.reduceLT, Int.reduceLT, Int.reduceLE, Int.reduceToNat, Int.reduceAdd, Int.reduceSub, Int.reduceNeg, Int.reduceMul, Int.reduceEq, ← Bool.decide_and, ← Bool.decide_or, ↓tq_n, ↓tq_e, ↓tq_r, ↓bq_n, ↓bq_e, ↓bq_r, ↓rq_n, ↓rq_r, ↓rq_e]
    exact ret_ok rfl
  rw [decide_eq_true k1]
  simp only [F_law_ColoringOrderW, g_law_ColoringOrderW, go_sem, reduceIte, Nat.reduceEqDiff, Nat.reduceAdd, Nat.reduceMul, Nat.reduceSub, reduceCtorEq, Nat.reduceLeDiff, Nat.reduceLT, Int.reduceLT, Int.reduceLE, Int.reduceToNat, Int.reduceAdd, Int.reduceSub, Int.reduceNeg, Int.reduceMul, Int.reduceEq, ← Bool.decide_and, ← Bool.decide_or, ↓tq_n, ↓tq_e, ↓tq_r, ↓bq_n, ↓bq_e, ↓bq_r, ↓rq_n, ↓rq_r, ↓rq_e]
  refine CallG.mk (r_coloring_Color n1 n e u1 _) ?_
  by_cases hv : Vd n e
  case neg =>
    rw [if_neg hv, if_neg hv]
    simp only [F_law_ColoringOrderW, g_law_ColoringOrderW, go_sem, reduceIte, Nat.reduceEqDiff, Nat.reduceAdd, Nat.reduceMul, Nat.reduceSub, reduceCtorEq, Nat.reduceLeDiff, Nat.reduceLT, Int.reduceLT, Int.reduceLE, Int.reduceToNat, Int.reduceAdd, Int.reduceSub, Int.reduceNeg, Int.reduceMul, Int.reduceEq, ← Bool.decide_and, ← Bool.decide_or, ↓tq_n, ↓tq_e, ↓tq_r, ↓bq_n, ↓bq_e, ↓bq_r, ↓rq_n, ↓rq_r, ↓rq_e]
    exact ret_ok rfl
  rw [if_pos hv, if_pos hv]
  have hn0 := hv.1
  have hn12 := hv.2.1
  obtain ⟨cs1, cs2, cs3⟩ := col_spec hv
  obtain ⟨ck1, ck2, _, _⟩ := chi_kc hv
  have hic := col_isC hv
  have hcn := col_colN hv
  obtain ⟨c, hcd⟩ : ∃ c, c = col n e := ⟨_, rfl⟩
  rw [← hcd] at cs1 cs2 cs3 hic hcn ⊢
  have hprm : Prm (oC c 12) c.length := oC_prm fun i hi => by have := cs3 i hi; omega
  rw [cs1] at hprm
  obtain ⟨gi1, gi2⟩ := grd_isC hv hprm
  have hle := grd_le hv (by omega) hprm hic (fun j i hji hi => pw_at (oC_pw c 12) 0 hji (by have := hprm.1; omega)) n.toNat (Nat.le_refl _)
  have hgl := grd_len e (oC c 12) n.toNat n.toNat
  have hgv : gV n e (oC c 12) = .tup [.sl false n.toNat (i64s (grd e (oC c 12) n.toNat n.toNat)) .unk, I 0] := by unfold gV; rw [if_pos hv, if_pos hprm]
  have hgN : (colN (grd e (oC c 12) n.toNat n.toNat) : Int) = chi n e := colN_eq gi1 fun i hi => by
    have := hle i (by omega)
    have := cs3 i (by omega)
    omega
  simp only [F_law_ColoringOrderW, g_law_ColoringOrderW, go_sem, reduceIte, Nat.reduceEqDiff, Nat.reduceAdd, Nat.reduceMul, Nat.reduceSub, reduceCtorEq, Nat.reduceLeDiff, Nat.reduceLT, Int.reduceLT, Int.reduceLE, Int.reduceToNat, Int.reduceAdd, Int.reduceSub, Int.reduceNeg, Int.reduceMul, Int.reduceEq, ← Bool.decide_and, ← Bool.decide_or, ↓tq_n, ↓tq_e, ↓tq_r, ↓bq_n, ↓bq_e, ↓bq_r, ↓rq_n, ↓rq_r, ↓rq_e]
  refine awp_tok 7 1 (nl := true) (n := 0) (cs := []) rfl fun tk ht => ?_
  refine awp_loop (fun x : Nat => [(0, I n), (1, .sl n1 e.length (prs e) u1), (5, .sl false c.length (i64s c) .unk), (7, gl (i64s (oC c x)) (oC c x).length (.tok tk)), (8, I x)]) (fun x => h'.setTok tk (oC c x).length 1) (fun x => x ≤ 12) (fun x => 12 - x) 0 (Nat.zero_le _) (GStep.forget (by repeat' first | exact EnvLe.nil _ | refine EnvLe.cons (AV.le.of_eq rfl) ?_ | refine EnvLe.cons (AV.le.undef _) ?_ | refine EnvLe.cons AV.le.unk ?_) (by repeat' first | exact AH.le.refl _ | assumption | (refine AH.le_put ?_ (by first | assumption | exact (AH.blk_put_ne _ _ (by assumption)).trans (by assumption) | exact AH.none_put (by assumption) | exact AH.none_put (AH.none_put (by assumption)) | (simp only [AH.blk_setTok, AH.tok_put] at *; first | assumption | exact AH.none_put (by assumption)))) | (refine AH.le_setTok ?_ (by first | assumption | exact (AH.blk_put_ne _ _ (by assumption)).trans (by assumption) | exact AH.none_put (by assumption) | exact AH.none_put (AH.none_put (by assumption)) | (simp only [AH.blk_setTok, AH.tok_put] at *; first | assumption | exact AH.none_put (by assumption)))) | (refine AH.le_putM ?_ (by first | assumption | exact (AH.mp_putM_ne _ _ (by assumption)).trans (by assumption) | (simp only [AH.mp_put, AH.mp_setTok] at *; assumption))))) fun x hx => .of_vg hm ?_
  by_cases h3 : x < 12
  · have hc : (x : Int) < 12 := by omega
    have hxl := oC_len c x
    have hx2 : x * c.length ≤ 12 * 12 := Nat.mul_le_mul (by omega) (by omega)
    simp only [hc, F_law_ColoringOrderW, g_law_ColoringOrderW, go_sem, reduceIte, Nat.reduceEqDiff, Nat.reduceAdd, Nat.reduceMul, Nat.reduceSub, reduceCtorEq, Nat.reduceLeDiff, Nat.reduceLT, Int.reduceLT, Int.reduceLE, Int.reduceToNat, Int.reduceAdd, Int.reduceSub, Int.reduceNeg, Int.reduceMul, Int.reduceEq, ← Bool.decide_and, ← Bool.decide_or, ↓tq_n, ↓tq_e, ↓tq_r, ↓bq_n, ↓bq_e, ↓bq_r, ↓rq_n, ↓rq_r, ↓rq_e]
    refine awp_loop (fun i : Nat => [(0, I n), (1, .sl n1 e.length (prs e) u1), (5, .sl false c.length (i64s c) .unk), (7, gl (i64s (oC c x ++ oI c x i)) (oC c x ++ oI c x i).length (.tok tk)), (8, I x), (9, I i)]) (fun i => h'.setTok tk (oC c x ++ oI c x i).length 1) (fun i => i ≤ c.length) (fun i => c.length - i) 0 (Nat.zero_le _) (by simp only [oI, List.append_nil]; exact (GStep.forget (by repeat' first | exact EnvLe.nil _ | refine EnvLe.cons (AV.le.of_eq rfl) ?_ | refine EnvLe.cons (AV.le.undef _) ?_ | refine EnvLe.cons AV.le.unk ?_) (by repeat' first | exact AH.le.refl _ | assumption | (refine AH.le_put ?_ (by first | assumption | exact (AH.blk_put_ne _ _ (by assumption)).trans (by assumption) | exact AH.none_put (by assumption) | exact AH.none_put (AH.none_put (by assumption)) | (simp only [AH.blk_setTok, AH.tok_put] at *; first | assumption | exact AH.none_put (by assumption)))) | (refine AH.le_setTok ?_ (by first | assumption | exact (AH.blk_put_ne _ _ (by assumption)).trans (by assumption) | exact AH.none_put (by assumption) | exact AH.none_put (AH.none_put (by assumption)) | (simp only [AH.blk_setTok, AH.tok_put] at *; first | assumption | exact AH.none_put (by assumption)))) | (refine AH.le_putM ?_ (by first | assumption | exact (AH.mp_putM_ne _ _ (by assumption)).trans (by assumption) | (simp only [AH.mp_put, AH.mp_setTok] at *; assumption)))))) fun i hi => .of_vg hm ?_
    by_cases h5 : i < c.length
    · have hc5 : (i : Int) < (c.length : Int) := by omega
      have hil := oI_len c x i
      have hlen : (oC c x ++ oI c x i).length ≤ 1000 := by rw [List.length_append]; omega
      by_cases h6 : c.getD i 0 = (x : Int)
      · have e1 : oI c x (i + 1) = oI c x i ++ [(i : Int)] := by rw [oI, if_pos h6]
        have hln : (i64s (oC c x ++ oI c x i)).length = (oC c x ++ oI c x i).length := by rw [i64s_len]
        simp only [hc5, i64s_drop h5, h6, F_law_ColoringOrderW, g_law_ColoringOrderW, go_sem, reduceIte, Nat.reduceEqDiff, Nat.reduceAdd, Nat.reduceMul, Nat.reduceSub, reduceCtorEq, Nat.reduceLeDiff, Nat.reduceLT, Int.reduceLT, Int.reduceLE, Int.reduceToNat, Int.reduceAdd, Int.reduceSub, Int.reduceNeg, Int.reduceMul, Int.reduceEq, ← Bool.decide_and, ← Bool.decide_or, ↓tq_n, ↓tq_e, ↓tq_r, ↓bq_n, ↓bq_e, ↓bq_r, ↓rq_n, ↓rq_r, ↓rq_e]
        refine ⟨hln, by omega, by omega, by rw [inR64]; omega, i + 1, by omega, by omega, ?_⟩
        simp only [e1, ← List.append_assoc, i64s_append, i64s_one, List.length_append, List.length_cons, List.length_nil, ← Nat.add_assoc]
        exact (GStep.forget (by repeat' first | exact EnvLe.nil _ | refine EnvLe.cons (AV.le.of_eq rfl) ?_ | refine EnvLe.cons (AV.le.undef _) ?_ | refine EnvLe.cons AV.le.unk ?_) (by repeat' first | exact AH.le.refl _ | assumption | (refine AH.le_put ?_ (by first | assumption | exact (AH.blk_put_ne _ _ (by assumption)).trans (by assumption) | exact AH.none_put (by assumption) | exact AH.none_put (AH.none_put (by assumption)) | (simp only [AH.blk_setTok, AH.tok_put] at *; first | assumption | exact AH.none_put (by assumption)))) | (refine AH.le_setTok ?_ (by first | assumption | exact (AH.blk_put_ne _ _ (by assumption)).trans (by assumption) | exact AH.none_put (by assumption) | exact AH.none_put (AH.none_put (by assumption)) | (simp only [AH.blk_setTok, AH.tok_put] at *; first | assumption | exact AH.none_put (by assumption)))) | (refine AH.le_putM ?_ (by first | assumption | exact (AH.mp_putM_ne _ _ (by assumption)).trans (by assumption) | (simp only [AH.mp_put, AH.mp_setTok] at *; assumption)))))
      · have e1 : oI c x (i + 1) = oI c x i := by rw [oI, if_neg h6]
        simp only [hc5, i64s_drop h5, h6, F_law_ColoringOrderW, g_law_ColoringOrderW, go_sem, reduceIte, Nat.reduceEqDiff, Nat.reduceAdd, Nat.reduceMul, Nat.reduceSub, reduceCtorEq, Nat.reduceLeDiff, Nat.reduceLT, Int.reduceLT, Int.reduceLE, Int.reduceToNat, Int.reduceAdd, Int.reduceSub, Int.reduceNeg, Int.reduceMul, Int.reduceEq, ← Bool.decide_and, ← Bool.decide_or, ↓tq_n, ↓tq_e, ↓tq_r, ↓bq_n, ↓bq_e, ↓bq_r, ↓rq_n, ↓rq_r, ↓rq_e]
        refine ⟨by rw [inR64]; omega, i + 1, by omega, by omega, ?_⟩
        rw [e1]
        exact (GStep.forget (by repeat' first | exact EnvLe.nil _ | refine EnvLe.cons (AV.le.of_eq rfl) ?_ | refine EnvLe.cons (AV.le.undef _) ?_ | refine EnvLe.cons AV.le.unk ?_) (by repeat' first | exact AH.le.refl _ | assumption | (refine AH.le_put ?_ (by first | assumption | exact (AH.blk_put_ne _ _ (by assumption)).trans (by assumption) | exact AH.none_put (by assumption) | exact AH.none_put (AH.none_put (by assumption)) | (simp only [AH.blk_setTok, AH.tok_put] at *; first | assumption | exact AH.none_put (by assumption)))) | (refine AH.le_setTok ?_ (by first | assumption | exact (AH.blk_put_ne _ _ (by assumption)).trans (by assumption) | exact AH.none_put (by assumption) | exact AH.none_put (AH.none_put (by assumption)) | (simp only [AH.blk_setTok, AH.tok_put] at *; first | assumption | exact AH.none_put (by assumption)))) | (refine AH.le_putM ?_ (by first | assumption | exact (AH.mp_putM_ne _ _ (by assumption)).trans (by assumption) | (simp only [AH.mp_put, AH.mp_setTok] at *; assumption)))))
    have h5 : i = c.length := by omega
    subst h5
    simp only [F_law_ColoringOrderW, g_law_ColoringOrderW, go_sem, reduceIte, Nat.reduceEqDiff, Nat.reduceAdd, Nat.reduceMul, Nat.reduceSub, reduceCtorEq, Nat.reduceLeDiff, Nat.reduceLT, Int.reduceLT, Int.reduceLE, Int.reduceToNat, Int.reduceAdd, Int.reduceSub, Int.reduceNeg, Int.reduceMul, Int.reduceEq, ← Bool.decide_and, ← Bool.decide_or, ↓tq_n, ↓tq_e, ↓tq_r, ↓bq_n, ↓bq_e, ↓bq_r, ↓rq_n, ↓rq_r, ↓rq_e]
    exact ⟨by rw [inR64]; omega, x + 1, by omega, by omega, (GStep.forget (by repeat' first | exact EnvLe.nil _ | refine EnvLe.cons (AV.le.of_eq rfl) ?_ | refine EnvLe.cons (AV.le.undef _) ?_ | refine EnvLe.cons AV.le.unk ?_) (by repeat' first | exact AH.le.refl _ | assumption | (refine AH.le_put ?_ (by first | assumption | exact (AH.blk_put_ne _ _ (by assumption)).trans (by assumption) | exact AH.none_put (by assumption) | exact AH.none_put (AH.none_put (by assumption)) | (simp only [AH.blk_setTok, AH.tok_put] at *; first | assumption | exact AH.none_put (by assumption)))) | (refine AH.le_setTok ?_ (by first | assumption | exact (AH.blk_put_ne _ _ (by assumption)).trans (by assumption) | exact AH.none_put (by assumption) | exact AH.none_put (AH.none_put (by assumption)) | (simp only [AH.blk_setTok, AH.tok_put] at *; first | assumption | exact AH.none_put (by assumption)))) | (refine AH.le_putM ?_ (by first | assumption | exact (AH.mp_putM_ne _ _ (by assumption)).trans (by assumption) | (simp only [AH.mp_put, AH.mp_setTok] at *; assumption)))))⟩
  have h3 : x = 12 := by omega
  subst h3
  have hc : ¬ ((12 : Nat) : Int) < 12 := by omega
  simp only [hc, F_law_ColoringOrderW, g_law_ColoringOrderW, go_sem, reduceIte, Nat.reduceEqDiff, Nat.reduceAdd, Nat.reduceMul, Nat.reduceSub, reduceCtorEq, Nat.reduceLeDiff, Nat.reduceLT, Int.reduceLT, Int.reduceLE, Int.reduceToNat, Int.reduceAdd, Int.reduceSub, Int.reduceNeg, Int.reduceMul, Int.reduceEq, ← Bool.decide_and, ← Bool.decide_or, ↓tq_n, ↓tq_e, ↓tq_r, ↓bq_n, ↓bq_e, ↓bq_r, ↓rq_n, ↓rq_r, ↓rq_e]
  have hol : (oC c 12).length ≤ 1000000 := by have := hprm.1; omega
  refine CallG.mk (r_coloring_Greedy n n1 e u1 (decide ((oC c 12).length = 0)) (oC c 12) (.tok tk) hol _) ?_
  rw [hgv]
  have hq1 : decide ((n.toNat : Int) = (c.length : Int)) = true := decide_eq_true (by omega)
  have hq2 : decide ((c.length : Int) = n) = true := decide_eq_true (by omega)
  obtain ⟨G, hG⟩ : ∃ G, G = grd e (oC c 12) n.toNat n.toNat := ⟨_, rfl⟩
  rw [← hG] at hgl hle hgN ⊢
  rw [← hgl] at hq1 ⊢
  simp only [hq1, hq2, F_law_ColoringOrderW, g_law_ColoringOrderW, go_sem, reduceIte, Nat.reduceEqDiff, Nat.reduceAdd, Nat.reduceMul, Nat.reduceSub, reduceCtorEq, Nat.reduceLeDiff, Nat.reduceLT, Int.reduceLT, Int.reduceLE, Int.reduceToNat, Int.reduceAdd, Int.reduceSub, Int.reduceNeg, Int.reduceMul, Int.reduceEq, ← Bool.decide_and, ← Bool.decide_or, ↓tq_n, ↓tq_e, ↓tq_r, ↓bq_n, ↓bq_e, ↓bq_r, ↓rq_n, ↓rq_r, ↓rq_e]
  refine awp_loop (fun i : Nat => [(5, .sl false c.length (i64s c) .unk), (10, .sl false G.length (i64s G) .unk), (12, I i)]) (fun _ => h'.setTok tk (oC c 12).length 1) (fun i => i ≤ c.length) (fun i => c.length - i) 0 (Nat.zero_le _) (GStep.forget (by repeat' first | exact EnvLe.nil _ | refine EnvLe.cons (AV.le.of_eq rfl) ?_ | refine EnvLe.cons (AV.le.undef _) ?_ | refine EnvLe.cons AV.le.unk ?_) (by repeat' first | exact AH.le.refl _ | assumption | (refine AH.le_put ?_ (by first | assumption | exact (AH.blk_put_ne _ _ (by assumption)).trans (by assumption) | exact AH.none_put (by assumption) | exact AH.none_put (AH.none_put (by assumption)) | (simp only [AH.blk_setTok, AH.tok_put] at *; first | assumption | exact AH.none_put (by assumption)))) | (refine AH.le_setTok ?_ (by first | assumption | exact (AH.blk_put_ne _ _ (by assumption)).trans (by assumption) | exact AH.none_put (by assumption) | exact AH.none_put (AH.none_put (by assumption)) | (simp only [AH.blk_setTok, AH.tok_put] at *; first | assumption | exact AH.none_put (by assumption)))) | (refine AH.le_putM ?_ (by first | assumption | exact (AH.mp_putM_ne _ _ (by assumption)).trans (by assumption) | (simp only [AH.mp_put, AH.mp_setTok] at *; assumption))))) fun i hi => .of_vg hm ?_
  by_cases h5 : i < c.length
  · have hc5 : (i : Int) < (c.length : Int) := by omega
    have hc6 : (i : Int) < (G.length : Int) := by omega
    have hle2 : ¬ c.getD i 0 < G.getD i 0 := by have := hle i (by omega); omega
    simp only [hc5, hc6, i64s_drop h5, i64s_drop (show i < G.length by omega), hle2, F_law_ColoringOrderW, g_law_ColoringOrderW, go_sem, reduceIte, Nat.reduceEqDiff, Nat.reduceAdd, Nat.reduceMul, Nat.reduceSub, reduceCtorEq, Nat.reduceLeDiff, Nat.reduceLT, Int.reduceLT, Int.reduceLE, Int.reduceToNat, Int.reduceAdd, Int.reduceSub, Int.reduceNeg, Int.reduceMul, Int.reduceEq, ← Bool.decide_and, ← Bool.decide_or, ↓tq_n, ↓tq_e, ↓tq_r, ↓bq_n, ↓bq_e, ↓bq_r, ↓rq_n, ↓rq_r, ↓rq_e]
    exact ⟨by rw [inR64]; omega, i + 1, by omega, by omega, (GStep.forget (by repeat' first | exact EnvLe.nil _ | refine EnvLe.cons (AV.le.of_eq rfl) ?_ | refine EnvLe.cons (AV.le.undef _) ?_ | refine EnvLe.cons AV.le.unk ?_) (by repeat' first | exact AH.le.refl _ | assumption | (refine AH.le_put ?_ (by first | assumption | exact (AH.blk_put_ne _ _ (by assumption)).trans (by assumption) | exact AH.none_put (by assumption) | exact AH.none_put (AH.none_put (by assumption)) | (simp only [AH.blk_setTok, AH.tok_put] at *; first | assumption | exact AH.none_put (by assumption)))) | (refine AH.le_setTok ?_ (by first | assumption | exact (AH.blk_put_ne _ _ (by assumption)).trans (by assumption) | exact AH.none_put (by assumption) | exact AH.none_put (AH.none_put (by assumption)) | (simp only [AH.blk_setTok, AH.tok_put] at *; first | assumption | exact AH.none_put (by assumption)))) | (refine AH.le_putM ?_ (by first | assumption | exact (AH.mp_putM_ne _ _ (by assumption)).trans (by assumption) | (simp only [AH.mp_put, AH.mp_setTok] at *; assumption)))))⟩
  have h5 : i = c.length := by omega
  subst h5
  simp only [F_law_ColoringOrderW, g_law_ColoringOrderW, go_sem, reduceIte, Nat.reduceEqDiff, Nat.reduceAdd, Nat.reduceMul, Nat.reduceSub, reduceCtorEq, Nat.reduceLeDiff, Nat.reduceLT, Int.reduceLT, Int.reduceLE, Int.reduceToNat, Int.reduceAdd, Int.reduceSub, Int.reduceNeg, Int.reduceMul, Int.reduceEq, ← Bool.decide_and, ← Bool.decide_or, ↓tq_n, ↓tq_e, ↓tq_r, ↓bq_n, ↓bq_e, ↓bq_r, ↓rq_n, ↓rq_r, ↓rq_e]
  refine CallG.mk (r_law_colors false G .unk _) ?_
  simp only [F_law_ColoringOrderW, g_law_ColoringOrderW, go_sem, reduceIte, Nat.reduceEqDiff, Nat.reduceAdd, Nat.reduceMul, Nat.reduceSub, reduceCtorEq, Nat.reduceLeDiff, Nat.reduceLT, Int.reduceLT, Int.reduceLE, Int.reduceToNat, Int.reduceAdd, Int.reduceSub, Int.reduceNeg, Int.reduceMul, Int.reduceEq, ← Bool.decide_and, ← Bool.decide_or, ↓tq_n, ↓tq_e, ↓tq_r, ↓bq_n, ↓bq_e, ↓bq_r, ↓rq_n, ↓rq_r, ↓rq_e]
  refine CallG.mk (r_law_colors false c .unk _) ?_
  rw [hgN, hcn]
  simp only [F_law_ColoringOrderW, g_law_ColoringOrderW, go_sem, reduceIte, Nat.reduceEqDiff, Nat.reduceAdd, Nat.reduceMul, Nat.reduceSub, reduceCtorEq, Nat.reduceLeDiff, Nat.reduceLT, Int.reduceLT, Int.reduceLE, Int.reduceToNat, Int.reduceAdd, Int.reduceSub, Int.reduceNeg, Int.reduceMul, Int.reduceEq, ← Bool.decide_and, ← Bool.decide_or, ↓tq_n, ↓tq_e, ↓tq_r, ↓bq_n, ↓bq_e, ↓bq_r, ↓rq_n, ↓rq_r, ↓rq_e]
  exact ret_hb (AH.le_setTok (.refl _) ht) rfl
end Go.Proofs.Yticiimmfjdkimaa
namespace Go.Proofs.Yticiimmfjdkimaa
open Go Go.Abs
set_option linter.unusedSimpArgs false
set_option linter.unusedVariables false
set_option maxRecDepth 20000

theorem ex_pair {e : List (Int × Int)} {N : Nat} : ∀ (k : Nat) (s t : List Int), Ex (okE e) N k s t → (∀ u ∈ s, ∀ v ∈ t, (u, v) ∈ e) ∧ t.Pairwise fun u v => (u, v) ∈ e := by
  intro k
  induction k with
  | zero => intro s t h; cases h; exact ⟨by simp, .nil⟩
  | succ k ih =>
    intro s t h
    rcases h with h | ⟨t', rfl, h1, h2⟩
    · exact ih s t h
    · obtain ⟨a, b⟩ := ih _ _ h2
      have h1 : ∀ u ∈ s, (u, ((N - (k + 1) : Nat) : Int)) ∈ e := fun u hu => by
        unfold okE at h1
        exact of_decide_eq_true (List.all_eq_true.1 h1 u hu)
      refine ⟨fun u hu v hv => ?_, List.pairwise_cons.2 ⟨fun v hv => a _ (by simp) v hv, b⟩⟩
      rcases List.mem_cons.1 hv with rfl | hv
      · exact h1 u hu
      · exact a u (by simp [hu]) v hv
theorem clique_le {n : Int} {e : List (Int × Int)} (hv : Vd n e) {t : List Int} (ht : t.Pairwise fun u v => (u, v) ∈ e) (hm : ∀ u ∈ t, 0 ≤ u ∧ u < n) {c : List Int} {k : Nat} (hc : isC n e c) (hr : ∀ i, i < c.length → c.getD i 0 < k) : t.length ≤ k := by
  obtain ⟨c1, c2, c3⟩ := (isC_iff hv).1 hc
  have hnd : (t.map fun u => c.getD u.toNat 0).Nodup := by
    refine List.pairwise_map.2 (ht.imp_of_mem fun {u v} hu hv2 hh => ?_)
    have hp := vd_mem hv hh
    have := hm v hv2
    simp only at hp
    refine c3 u.toNat v.toNat (by omega) (by omega) ?_
    rw [show ((u.toNat : Nat) : Int) = u by omega, show ((v.toNat : Nat) : Int) = v by omega]
    exact hh
  have := sub_len hnd (B := upN k) fun x hx => by
    obtain ⟨u, hu, rfl⟩ := List.mem_map.1 hx
    have := hm u hu
    exact mem_upN.2 ⟨c2 _ (by omega), hr _ (by omega)⟩
  rw [upN_len, List.length_map] at this
  exact this
theorem ex_mem {ok : List Int → Int → Bool} {N : Nat} : ∀ (k : Nat) (s t : List Int), k ≤ N → Ex ok N k s t → ∀ u ∈ t, 0 ≤ u ∧ u < N := by
  intro k
  induction k with
  | zero => intro s t _ h; cases h; simp
  | succ k ih =>
    intro s t hk h
    rcases h with h | ⟨t', rfl, _, h2⟩
    · exact ih s t (by omega) h
    · intro u hu
      rcases List.mem_cons.1 hu with rfl | hu
      · omega
      · exact ih _ _ (by omega) h2 u hu
theorem chi_two {n : Int} {e : List (Int × Int)} (hv : Vd n e) : chi n e < 2 ↔ e.length = 0 := by
  constructor
  · intro h
    rcases Nat.eq_zero_or_pos e.length with h0 | h0
    · exact h0
    · exfalso
      obtain ⟨c1, c2, c3⟩ := col_spec hv
      have hp := vd_at hv h0
      have := c2 (e.getD 0 (0, 0)).1.toNat (e.getD 0 (0, 0)).2.toNat (by omega) (by omega) (by
        rw [show (((e.getD 0 (0, 0)).1.toNat : Nat) : Int) = (e.getD 0 (0, 0)).1 by omega, show (((e.getD 0 (0, 0)).2.toNat : Nat) : Int) = (e.getD 0 (0, 0)).2 by omega]
        exact mem_getD h0)
      have r1 := c3 (e.getD 0 (0, 0)).1.toNat (by omega)
      have r2 := c3 (e.getD 0 (0, 0)).2.toNat (by omega)
      omega
  · intro h
    have he : e = [] := List.eq_nil_of_length_eq_zero h
    have := (chi_kc hv).2.2.2 1 (by omega) ⟨List.replicate n.toNat 0, by simp, fun i j _ _ hm => by rw [he] at hm; simp at hm, fun i hi => by
      rw [List.length_replicate] at hi
      simp [List.getD, hi]⟩
    omega
/-- Whether the first i colors are small. -/
def smB (c : List Int) : Nat → Bool
  | 0 => true
  | i + 1 => smB c i && decide (c.getD i 0 ≤ 15)
theorem smB_all {c : List Int} : ∀ {i : Nat}, smB c i = true → ∀ j, j < i → c.getD j 0 ≤ 15 := by
  intro i
  induction i with
  | zero => intro _ j hj; omega
  | succ i ih =>
    intro h j hj
    rw [smB, Bool.and_eq_true, decide_eq_true_eq] at h
    rcases Nat.lt_succ_iff_lt_or_eq.1 hj with hj | rfl
    · exact ih h.1 j hj
    · exact h.2

set_option maxHeartbeats 1000000 in
theorem r_law_ColoringLeast (n : Int) (n1 : Bool) (e : List (Int × Int)) (u1 : Tail) (n2 : Bool) (d : List Int) (u2 : Tail) (h : AH) : RCall Try.prog n_law_ColoringLeastW [I n, .sl n1 e.length (prs e) u1, .sl n2 d.length (i64s d) u2] h (.bool true) := by
  refine RCall.of hm cF_law_ColoringLeastW (by simp [g_law_ColoringLeastW]) fun hw h' hl => ?_
  simp only [F_law_ColoringLeastW, g_law_ColoringLeastW, go_sem, reduceIte, Nat.reduceEqDiff, Nat.reduceAdd, Nat.reduceMul, Nat.reduceSub, reduceCtorEq, Nat.reduceLeDiff, Nat.reduceLT, Int.reduceLT, Int.reduceLE, Int.reduceToNat, Int.reduceAdd, Int.reduceSub, Int.reduceNeg, Int.reduceMul, Int.reduceEq, ← Bool.decide_and, ← Bool.decide_or, ↓tq_n, ↓tq_e, ↓tq_r, ↓bq_n, ↓bq_e, ↓bq_r, ↓rq_n, ↓rq_r, ↓rq_e]
  refine CallG.mk (r_law_awake _) ?_
  simp only [F_law_ColoringLeastW, g_law_ColoringLeastW, go_sem, reduceIte, Nat.reduceEqDiff, Nat.reduceAdd, Nat.reduceMul, Nat.reduceSub, reduceCtorEq, Nat.reduceLeDiff, Nat.reduceLT, Int.reduceLT, Int.reduceLE, Int.reduceToNat, Int.reduceAdd, Int.reduceSub, Int.reduceNeg, Int.reduceMul, Int.reduceEq, ← Bool.decide_and, ← Bool.decide_or, ↓tq_n, ↓tq_e, ↓tq_r, ↓bq_n, ↓bq_e, ↓bq_r, ↓rq_n, ↓rq_r, ↓rq_e]
  refine CallG.mk (r_law_few n1 e.length (prs e) u1 _) ?_
  by_cases k1 : (e.length : Int) ≤ 80
  case neg =>
    rw [decide_eq_false k1]
    simp only [F_law_ColoringLeastW, g_law_ColoringLeastW, go_sem, reduceIte, Nat.reduceEqDiff, Nat.reduceAdd, Nat.reduceMul, Nat.reduceSub, reduceCtorEq, Nat.reduceLeDiff, Nat.reduceLT, Int.reduceLT, Int.reduceLE, Int.reduceToNat, Int.reduceAdd, Int.reduceSub, Int.reduceNeg, Int.reduceMul, Int.reduceEq, ← Bool.decide_and, ← Bool.decide_or, ↓tq_n, ↓tq_e, ↓tq_r, ↓bq_n, ↓bq_e, ↓bq_r, ↓rq_n, ↓rq_r, ↓rq_e]
    refine CallG.mk (r_law_awake _) ?_
    simp only [F_law_ColoringLeastW, g_law_ColoringLeastW, go_sem, reduceIte, Nat.reduceEqDiff, Nat.reduceAdd, Nat.reduceMul, Nat.reduceSub, reduceCtorEq, Nat.reduceLeDiff, Nat.reduceLT, Int.reduceLT, Int.reduceLE, Int.reduceToNat, Int.reduceAdd, Int.reduceSub, Int.reduceNeg, Int.reduceMul, Int.reduceEq, ← Bool.decide_and, ← Bool.decide_or, ↓tq_n, ↓tq_e, ↓tq_r, ↓bq_n, ↓bq_e, ↓bq_r, ↓rq_n, ↓rq_r, ↓rq_e]
    exact ret_ok rfl
  rw [decide_eq_true k1]
  by_cases k2 : (20 : Int) < (d.length : Int)
  · simp only [k2, F_law_ColoringLeastW, g_law_ColoringLeastW, go_sem, reduceIte, Nat.reduceEqDiff, Nat.reduceAdd, Nat.reduceMul, Nat.reduceSub, reduceCtorEq, Nat.reduceLeDiff, Nat.reduceLT, Int.reduceLT, Int.reduceLE, Int.reduceToNat, Int.reduceAdd, Int.reduceSub, Int.reduceNeg, Int.reduceMul, Int.reduceEq, ← Bool.decide_and, ← Bool.decide_or, ↓tq_n, ↓tq_e, ↓tq_r, ↓bq_n, ↓bq_e, ↓bq_r, ↓rq_n, ↓rq_r, ↓rq_e]
    refine CallG.mk (r_law_awake _) ?_
    simp only [F_law_ColoringLeastW, g_law_ColoringLeastW, go_sem, reduceIte, Nat.reduceEqDiff, Nat.reduceAdd, Nat.reduceMul, Nat.reduceSub, reduceCtorEq, Nat.reduceLeDiff, Nat.reduceLT, Int.reduceLT, Int.reduceLE, Int.reduceToNat, Int.reduceAdd, Int.reduceSub, Int.reduceNeg, Int.reduceMul, Int.reduceEq, ← Bool.decide_and, ← Bool.decide_or, ↓tq_n, ↓tq_e, ↓tq_r, ↓bq_n, ↓bq_e, ↓bq_r, ↓rq_n, ↓rq_r, ↓rq_e]
    exact ret_ok rfl
  simp only [k2, F_law_ColoringLeastW, g_law_ColoringLeastW, go_sem, reduceIte, Nat.reduceEqDiff, Nat.reduceAdd, Nat.reduceMul, Nat.reduceSub, reduceCtorEq, Nat.reduceLeDiff, Nat.reduceLT, Int.reduceLT, Int.reduceLE, Int.reduceToNat, Int.reduceAdd, Int.reduceSub, Int.reduceNeg, Int.reduceMul, Int.reduceEq, ← Bool.decide_and, ← Bool.decide_or, ↓tq_n, ↓tq_e, ↓tq_r, ↓bq_n, ↓bq_e, ↓bq_r, ↓rq_n, ↓rq_r, ↓rq_e]
  refine CallG.mk (r_coloring_Number n1 n e u1 _) ?_
  by_cases hv : Vd n e
  case neg =>
    rw [if_neg hv, if_neg hv]
    simp only [F_law_ColoringLeastW, g_law_ColoringLeastW, go_sem, reduceIte, Nat.reduceEqDiff, Nat.reduceAdd, Nat.reduceMul, Nat.reduceSub, reduceCtorEq, Nat.reduceLeDiff, Nat.reduceLT, Int.reduceLT, Int.reduceLE, Int.reduceToNat, Int.reduceAdd, Int.reduceSub, Int.reduceNeg, Int.reduceMul, Int.reduceEq, ← Bool.decide_and, ← Bool.decide_or, ↓tq_n, ↓tq_e, ↓tq_r, ↓bq_n, ↓bq_e, ↓bq_r, ↓rq_n, ↓rq_r, ↓rq_e]
    refine CallG.mk (r_coloring_Color n1 n e u1 _) ?_
    rw [if_neg hv, if_neg hv]
    simp only [F_law_ColoringLeastW, g_law_ColoringLeastW, go_sem, reduceIte, Nat.reduceEqDiff, Nat.reduceAdd, Nat.reduceMul, Nat.reduceSub, reduceCtorEq, Nat.reduceLeDiff, Nat.reduceLT, Int.reduceLT, Int.reduceLE, Int.reduceToNat, Int.reduceAdd, Int.reduceSub, Int.reduceNeg, Int.reduceMul, Int.reduceEq, ← Bool.decide_and, ← Bool.decide_or, ↓tq_n, ↓tq_e, ↓tq_r, ↓bq_n, ↓bq_e, ↓bq_r, ↓rq_n, ↓rq_r, ↓rq_e]
    refine CallG.mk (r_coloring_Is n n1 e u1 n2 d u2 _) ?_
    rw [decide_eq_false (fun hh => hv hh.1)]
    simp only [F_law_ColoringLeastW, g_law_ColoringLeastW, go_sem, reduceIte, Nat.reduceEqDiff, Nat.reduceAdd, Nat.reduceMul, Nat.reduceSub, reduceCtorEq, Nat.reduceLeDiff, Nat.reduceLT, Int.reduceLT, Int.reduceLE, Int.reduceToNat, Int.reduceAdd, Int.reduceSub, Int.reduceNeg, Int.reduceMul, Int.reduceEq, ← Bool.decide_and, ← Bool.decide_or, ↓tq_n, ↓tq_e, ↓tq_r, ↓bq_n, ↓bq_e, ↓bq_r, ↓rq_n, ↓rq_r, ↓rq_e]
    exact ret_ok rfl
  rw [if_pos hv, if_pos hv]
  simp only [F_law_ColoringLeastW, g_law_ColoringLeastW, go_sem, reduceIte, Nat.reduceEqDiff, Nat.reduceAdd, Nat.reduceMul, Nat.reduceSub, reduceCtorEq, Nat.reduceLeDiff, Nat.reduceLT, Int.reduceLT, Int.reduceLE, Int.reduceToNat, Int.reduceAdd, Int.reduceSub, Int.reduceNeg, Int.reduceMul, Int.reduceEq, ← Bool.decide_and, ← Bool.decide_or, ↓tq_n, ↓tq_e, ↓tq_r, ↓bq_n, ↓bq_e, ↓bq_r, ↓rq_n, ↓rq_r, ↓rq_e]
  refine CallG.mk (r_coloring_Color n1 n e u1 _) ?_
  rw [if_pos hv, if_pos hv]
  have hn0 := hv.1
  have hn12 := hv.2.1
  obtain ⟨cs1, cs2, cs3⟩ := col_spec hv
  obtain ⟨ck1, ck2, _, _⟩ := chi_kc hv
  have hic := col_isC hv
  have hcn := col_colN hv
  obtain ⟨c, hcd⟩ : ∃ c, c = col n e := ⟨_, rfl⟩
  rw [← hcd] at cs1 cs2 cs3 hic hcn ⊢
  obtain ⟨K, hK⟩ : ∃ K, K = chi n e := ⟨_, rfl⟩
  rw [← hK] at hcn ck1 ck2 ⊢
  simp only [F_law_ColoringLeastW, g_law_ColoringLeastW, go_sem, reduceIte, Nat.reduceEqDiff, Nat.reduceAdd, Nat.reduceMul, Nat.reduceSub, reduceCtorEq, Nat.reduceLeDiff, Nat.reduceLT, Int.reduceLT, Int.reduceLE, Int.reduceToNat, Int.reduceAdd, Int.reduceSub, Int.reduceNeg, Int.reduceMul, Int.reduceEq, ← Bool.decide_and, ← Bool.decide_or, ↓tq_n, ↓tq_e, ↓tq_r, ↓bq_n, ↓bq_e, ↓bq_r, ↓rq_n, ↓rq_r, ↓rq_e]
  refine CallG.mk (r_coloring_Is n n1 e u1 false c .unk _) ?_
  rw [decide_eq_true hic]
  simp only [F_law_ColoringLeastW, g_law_ColoringLeastW, go_sem, reduceIte, Nat.reduceEqDiff, Nat.reduceAdd, Nat.reduceMul, Nat.reduceSub, reduceCtorEq, Nat.reduceLeDiff, Nat.reduceLT, Int.reduceLT, Int.reduceLE, Int.reduceToNat, Int.reduceAdd, Int.reduceSub, Int.reduceNeg, Int.reduceMul, Int.reduceEq, ← Bool.decide_and, ← Bool.decide_or, ↓tq_n, ↓tq_e, ↓tq_r, ↓bq_n, ↓bq_e, ↓bq_r, ↓rq_n, ↓rq_r, ↓rq_e]
  refine CallG.mk (r_law_colors false c .unk _) ?_
  rw [hcn]
  simp only [F_law_ColoringLeastW, g_law_ColoringLeastW, go_sem, reduceIte, Nat.reduceEqDiff, Nat.reduceAdd, Nat.reduceMul, Nat.reduceSub, reduceCtorEq, Nat.reduceLeDiff, Nat.reduceLT, Int.reduceLT, Int.reduceLE, Int.reduceToNat, Int.reduceAdd, Int.reduceSub, Int.reduceNeg, Int.reduceMul, Int.reduceEq, ← Bool.decide_and, ← Bool.decide_or, ↓tq_n, ↓tq_e, ↓tq_r, ↓bq_n, ↓bq_e, ↓bq_r, ↓rq_n, ↓rq_r, ↓rq_e]
  refine CallG.mk (r_coloring_Is n n1 e u1 n2 d u2 _) ?_
  -- what follows
  have ex := (grow_best (ok := okE e) (N := n.toNat)).1
  have hM1 := (ex_pair _ _ _ ex).2
  have hM2 := ex_mem _ _ _ (Nat.le_refl _) ex
  have hMl := clique_le hv hM1 (fun u hu => by have := hM2 u hu; omega) hic (k := K.toNat) (fun i hi => by have := (cs3 i hi).2; omega)
  have hchi2 := chi_two hv
  rw [← hK] at hchi2
  obtain ⟨M, hM⟩ : ∃ M, M = grow (okE e) n.toNat n.toNat [] [] := ⟨_, rfl⟩
  rw [← hM] at hMl
  have hq1 : decide ((M.length : Int) ≤ K) = true := decide_eq_true (by omega)
  have hq2 : decide ((e.length : Int) = 0) = decide (K < 2) := decide_eq_decide.2 ⟨fun h => hchi2.2 (by omega), fun h => by have := hchi2.1 h; omega⟩
  by_cases hd : isC n e d
  · rw [decide_eq_true hd]
    simp only [F_law_ColoringLeastW, g_law_ColoringLeastW, go_sem, reduceIte, Nat.reduceEqDiff, Nat.reduceAdd, Nat.reduceMul, Nat.reduceSub, reduceCtorEq, Nat.reduceLeDiff, Nat.reduceLT, Int.reduceLT, Int.reduceLE, Int.reduceToNat, Int.reduceAdd, Int.reduceSub, Int.reduceNeg, Int.reduceMul, Int.reduceEq, ← Bool.decide_and, ← Bool.decide_or, ↓tq_n, ↓tq_e, ↓tq_r, ↓bq_n, ↓bq_e, ↓bq_r, ↓rq_n, ↓rq_r, ↓rq_e]
    refine awp_loop (fun i : Nat => [(0, I n), (1, .sl n1 e.length (prs e) u1), (2, .sl n2 d.length (i64s d) u2), (7, I K), (11, .bool (smB d i)), (12, I i)]) (fun _ => h') (fun i => i ≤ d.length) (fun i => d.length - i) 0 (Nat.zero_le _) (GStep.forget (by repeat' first | exact EnvLe.nil _ | refine EnvLe.cons (AV.le.of_eq rfl) ?_ | refine EnvLe.cons (AV.le.undef _) ?_ | refine EnvLe.cons AV.le.unk ?_) (by repeat' first | exact AH.le.refl _ | assumption | (refine AH.le_put ?_ (by first | assumption | exact (AH.blk_put_ne _ _ (by assumption)).trans (by assumption) | exact AH.none_put (by assumption) | exact AH.none_put (AH.none_put (by assumption)) | (simp only [AH.blk_setTok, AH.tok_put] at *; first | assumption | exact AH.none_put (by assumption)))) | (refine AH.le_setTok ?_ (by first | assumption | exact (AH.blk_put_ne _ _ (by assumption)).trans (by assumption) | exact AH.none_put (by assumption) | exact AH.none_put (AH.none_put (by assumption)) | (simp only [AH.blk_setTok, AH.tok_put] at *; first | assumption | exact AH.none_put (by assumption)))) | (refine AH.le_putM ?_ (by first | assumption | exact (AH.mp_putM_ne _ _ (by assumption)).trans (by assumption) | (simp only [AH.mp_put, AH.mp_setTok] at *; assumption))))) fun i hi => .of_vg hm ?_
    by_cases h5 : i < d.length
    · have hc5 : (i : Int) < (d.length : Int) := by omega
      by_cases h6 : smB d i = true
      · have e6 : smB d (i + 1) = decide (d.getD i 0 ≤ 15) := by rw [smB, h6, Bool.true_and]
        simp only [hc5, h6, i64s_drop h5, F_law_ColoringLeastW, g_law_ColoringLeastW, go_sem, reduceIte, Nat.reduceEqDiff, Nat.reduceAdd, Nat.reduceMul, Nat.reduceSub, reduceCtorEq, Nat.reduceLeDiff, Nat.reduceLT, Int.reduceLT, Int.reduceLE, Int.reduceToNat, Int.reduceAdd, Int.reduceSub, Int.reduceNeg, Int.reduceMul, Int.reduceEq, ← Bool.decide_and, ← Bool.decide_or, ↓tq_n, ↓tq_e, ↓tq_r, ↓bq_n, ↓bq_e, ↓bq_r, ↓rq_n, ↓rq_r, ↓rq_e]
        refine ⟨by rw [inR64]; omega, i + 1, by omega, by omega, ?_⟩
        rw [e6]
        exact (GStep.forget (by repeat' first | exact EnvLe.nil _ | refine EnvLe.cons (AV.le.of_eq rfl) ?_ | refine EnvLe.cons (AV.le.undef _) ?_ | refine EnvLe.cons AV.le.unk ?_) (by repeat' first | exact AH.le.refl _ | assumption | (refine AH.le_put ?_ (by first | assumption | exact (AH.blk_put_ne _ _ (by assumption)).trans (by assumption) | exact AH.none_put (by assumption) | exact AH.none_put (AH.none_put (by assumption)) | (simp only [AH.blk_setTok, AH.tok_put] at *; first | assumption | exact AH.none_put (by assumption)))) | (refine AH.le_setTok ?_ (by first | assumption | exact (AH.blk_put_ne _ _ (by assumption)).trans (by assumption) | exact AH.none_put (by assumption) | exact AH.none_put (AH.none_put (by assumption)) | (simp only [AH.blk_setTok, AH.tok_put] at *; first | assumption | exact AH.none_put (by assumption)))) | (refine AH.le_putM ?_ (by first | assumption | exact (AH.mp_putM_ne _ _ (by assumption)).trans (by assumption) | (simp only [AH.mp_put, AH.mp_setTok] at *; assumption)))))
      · have h6 : smB d i = false := by simpa using h6
        have e6 : smB d (i + 1) = false := by rw [smB, h6, Bool.false_and]
        simp only [hc5, h6, F_law_ColoringLeastW, g_law_ColoringLeastW, go_sem, reduceIte, Nat.reduceEqDiff, Nat.reduceAdd, Nat.reduceMul, Nat.reduceSub, reduceCtorEq, Nat.reduceLeDiff, Nat.reduceLT, Int.reduceLT, Int.reduceLE, Int.reduceToNat, Int.reduceAdd, Int.reduceSub, Int.reduceNeg, Int.reduceMul, Int.reduceEq, ← Bool.decide_and, ← Bool.decide_or, ↓tq_n, ↓tq_e, ↓tq_r, ↓bq_n, ↓bq_e, ↓bq_r, ↓rq_n, ↓rq_r, ↓rq_e]
        refine ⟨by rw [inR64]; omega, i + 1, by omega, by omega, ?_⟩
        rw [e6]
        exact (GStep.forget (by repeat' first | exact EnvLe.nil _ | refine EnvLe.cons (AV.le.of_eq rfl) ?_ | refine EnvLe.cons (AV.le.undef _) ?_ | refine EnvLe.cons AV.le.unk ?_) (by repeat' first | exact AH.le.refl _ | assumption | (refine AH.le_put ?_ (by first | assumption | exact (AH.blk_put_ne _ _ (by assumption)).trans (by assumption) | exact AH.none_put (by assumption) | exact AH.none_put (AH.none_put (by assumption)) | (simp only [AH.blk_setTok, AH.tok_put] at *; first | assumption | exact AH.none_put (by assumption)))) | (refine AH.le_setTok ?_ (by first | assumption | exact (AH.blk_put_ne _ _ (by assumption)).trans (by assumption) | exact AH.none_put (by assumption) | exact AH.none_put (AH.none_put (by assumption)) | (simp only [AH.blk_setTok, AH.tok_put] at *; first | assumption | exact AH.none_put (by assumption)))) | (refine AH.le_putM ?_ (by first | assumption | exact (AH.mp_putM_ne _ _ (by assumption)).trans (by assumption) | (simp only [AH.mp_put, AH.mp_setTok] at *; assumption)))))
    have h5 : i = d.length := by omega
    subst h5
    by_cases h6 : smB d d.length = true
    · have hge2 := colN_ge hd (fun j hj => smB_all h6 j hj)
      rw [← hK] at hge2
      have hq4 : ¬ (colN d : Int) < K := by omega
      simp only [h6, F_law_ColoringLeastW, g_law_ColoringLeastW, go_sem, reduceIte, Nat.reduceEqDiff, Nat.reduceAdd, Nat.reduceMul, Nat.reduceSub, reduceCtorEq, Nat.reduceLeDiff, Nat.reduceLT, Int.reduceLT, Int.reduceLE, Int.reduceToNat, Int.reduceAdd, Int.reduceSub, Int.reduceNeg, Int.reduceMul, Int.reduceEq, ← Bool.decide_and, ← Bool.decide_or, ↓tq_n, ↓tq_e, ↓tq_r, ↓bq_n, ↓bq_e, ↓bq_r, ↓rq_n, ↓rq_r, ↓rq_e]
      refine CallG.mk (r_law_colors n2 d u2 _) ?_
      simp only [hq4, F_law_ColoringLeastW, g_law_ColoringLeastW, go_sem, reduceIte, Nat.reduceEqDiff, Nat.reduceAdd, Nat.reduceMul, Nat.reduceSub, reduceCtorEq, Nat.reduceLeDiff, Nat.reduceLT, Int.reduceLT, Int.reduceLE, Int.reduceToNat, Int.reduceAdd, Int.reduceSub, Int.reduceNeg, Int.reduceMul, Int.reduceEq, ← Bool.decide_and, ← Bool.decide_or, ↓tq_n, ↓tq_e, ↓tq_r, ↓bq_n, ↓bq_e, ↓bq_r, ↓rq_n, ↓rq_r, ↓rq_e]
      refine CallG.mk (r_coloring_Greedy n n1 e u1 n2 d u2 (by omega) _) ?_
      by_cases hp : Prm d n.toNat
      · obtain ⟨gi1, gi2⟩ := grd_isC hv hp
        have hgl := grd_len e d n.toNat n.toNat
        have hgv : gV n e d = .tup [.sl false n.toNat (i64s (grd e d n.toNat n.toNat)) .unk, I 0] := by unfold gV; rw [if_pos hv, if_pos hp]
        have hge := colN_ge gi1 (fun i hi => by have := gi2 i (by omega); omega)
        rw [← hK] at hge
        rw [hgv]
        obtain ⟨G, hG⟩ : ∃ G, G = grd e d n.toNat n.toNat := ⟨_, rfl⟩
        rw [← hG] at hgl gi1 hge ⊢
        rw [← hgl]
        have hq3 : ¬ (colN G : Int) < K := by omega
        simp only [F_law_ColoringLeastW, g_law_ColoringLeastW, go_sem, reduceIte, Nat.reduceEqDiff, Nat.reduceAdd, Nat.reduceMul, Nat.reduceSub, reduceCtorEq, Nat.reduceLeDiff, Nat.reduceLT, Int.reduceLT, Int.reduceLE, Int.reduceToNat, Int.reduceAdd, Int.reduceSub, Int.reduceNeg, Int.reduceMul, Int.reduceEq, ← Bool.decide_and, ← Bool.decide_or, ↓tq_n, ↓tq_e, ↓tq_r, ↓bq_n, ↓bq_e, ↓bq_r, ↓rq_n, ↓rq_r, ↓rq_e]
        refine CallG.mk (r_coloring_Is n n1 e u1 false G .unk _) ?_
        rw [decide_eq_true gi1]
        simp only [F_law_ColoringLeastW, g_law_ColoringLeastW, go_sem, reduceIte, Nat.reduceEqDiff, Nat.reduceAdd, Nat.reduceMul, Nat.reduceSub, reduceCtorEq, Nat.reduceLeDiff, Nat.reduceLT, Int.reduceLT, Int.reduceLE, Int.reduceToNat, Int.reduceAdd, Int.reduceSub, Int.reduceNeg, Int.reduceMul, Int.reduceEq, ← Bool.decide_and, ← Bool.decide_or, ↓tq_n, ↓tq_e, ↓tq_r, ↓bq_n, ↓bq_e, ↓bq_r, ↓rq_n, ↓rq_r, ↓rq_e]
        refine CallG.mk (r_law_colors false G .unk _) ?_
        simp only [hq3, F_law_ColoringLeastW, g_law_ColoringLeastW, go_sem, reduceIte, Nat.reduceEqDiff, Nat.reduceAdd, Nat.reduceMul, Nat.reduceSub, reduceCtorEq, Nat.reduceLeDiff, Nat.reduceLT, Int.reduceLT, Int.reduceLE, Int.reduceToNat, Int.reduceAdd, Int.reduceSub, Int.reduceNeg, Int.reduceMul, Int.reduceEq, ← Bool.decide_and, ← Bool.decide_or, ↓tq_n, ↓tq_e, ↓tq_r, ↓bq_n, ↓bq_e, ↓bq_r, ↓rq_n, ↓rq_r, ↓rq_e]
        refine CallG.mk (r_coloring_Clique n1 n e u1 _) ?_
        rw [if_pos hv, if_pos hv, ← hM]
        simp only [asl, hq1, F_law_ColoringLeastW, g_law_ColoringLeastW, go_sem, reduceIte, Nat.reduceEqDiff, Nat.reduceAdd, Nat.reduceMul, Nat.reduceSub, reduceCtorEq, Nat.reduceLeDiff, Nat.reduceLT, Int.reduceLT, Int.reduceLE, Int.reduceToNat, Int.reduceAdd, Int.reduceSub, Int.reduceNeg, Int.reduceMul, Int.reduceEq, ← Bool.decide_and, ← Bool.decide_or, ↓tq_n, ↓tq_e, ↓tq_r, ↓bq_n, ↓bq_e, ↓bq_r, ↓rq_n, ↓rq_r, ↓rq_e]
        exact ret_ok (by rw [hq2]; simp)
      · have hgv : gV n e d = .tup [.sl true 0 [] .full, I 2] := by unfold gV; rw [if_pos hv, if_neg hp]
        rw [hgv]
        simp only [F_law_ColoringLeastW, g_law_ColoringLeastW, go_sem, reduceIte, Nat.reduceEqDiff, Nat.reduceAdd, Nat.reduceMul, Nat.reduceSub, reduceCtorEq, Nat.reduceLeDiff, Nat.reduceLT, Int.reduceLT, Int.reduceLE, Int.reduceToNat, Int.reduceAdd, Int.reduceSub, Int.reduceNeg, Int.reduceMul, Int.reduceEq, ← Bool.decide_and, ← Bool.decide_or, ↓tq_n, ↓tq_e, ↓tq_r, ↓bq_n, ↓bq_e, ↓bq_r, ↓rq_n, ↓rq_r, ↓rq_e]
        refine CallG.mk (r_coloring_Clique n1 n e u1 _) ?_
        rw [if_pos hv, if_pos hv, ← hM]
        simp only [asl, hq1, F_law_ColoringLeastW, g_law_ColoringLeastW, go_sem, reduceIte, Nat.reduceEqDiff, Nat.reduceAdd, Nat.reduceMul, Nat.reduceSub, reduceCtorEq, Nat.reduceLeDiff, Nat.reduceLT, Int.reduceLT, Int.reduceLE, Int.reduceToNat, Int.reduceAdd, Int.reduceSub, Int.reduceNeg, Int.reduceMul, Int.reduceEq, ← Bool.decide_and, ← Bool.decide_or, ↓tq_n, ↓tq_e, ↓tq_r, ↓bq_n, ↓bq_e, ↓bq_r, ↓rq_n, ↓rq_r, ↓rq_e]
        exact ret_ok (by rw [hq2]; simp)
    · have h6 : smB d d.length = false := by simpa using h6
      simp only [h6, F_law_ColoringLeastW, g_law_ColoringLeastW, go_sem, reduceIte, Nat.reduceEqDiff, Nat.reduceAdd, Nat.reduceMul, Nat.reduceSub, reduceCtorEq, Nat.reduceLeDiff, Nat.reduceLT, Int.reduceLT, Int.reduceLE, Int.reduceToNat, Int.reduceAdd, Int.reduceSub, Int.reduceNeg, Int.reduceMul, Int.reduceEq, ← Bool.decide_and, ← Bool.decide_or, ↓tq_n, ↓tq_e, ↓tq_r, ↓bq_n, ↓bq_e, ↓bq_r, ↓rq_n, ↓rq_r, ↓rq_e]
      refine CallG.mk (r_coloring_Greedy n n1 e u1 n2 d u2 (by omega) _) ?_
      by_cases hp : Prm d n.toNat
      · obtain ⟨gi1, gi2⟩ := grd_isC hv hp
        have hgl := grd_len e d n.toNat n.toNat
        have hgv : gV n e d = .tup [.sl false n.toNat (i64s (grd e d n.toNat n.toNat)) .unk, I 0] := by unfold gV; rw [if_pos hv, if_pos hp]
        have hge := colN_ge gi1 (fun i hi => by have := gi2 i (by omega); omega)
        rw [← hK] at hge
        rw [hgv]
        obtain ⟨G, hG⟩ : ∃ G, G = grd e d n.toNat n.toNat := ⟨_, rfl⟩
        rw [← hG] at hgl gi1 hge ⊢
        rw [← hgl]
        have hq3 : ¬ (colN G : Int) < K := by omega
        simp only [F_law_ColoringLeastW, g_law_ColoringLeastW, go_sem, reduceIte, Nat.reduceEqDiff, Nat.reduceAdd, Nat.reduceMul, Nat.reduceSub, reduceCtorEq, Nat.reduceLeDiff, Nat.reduceLT, Int.reduceLT, Int.reduceLE, Int.reduceToNat, Int.reduceAdd, Int.reduceSub, Int.reduceNeg, Int.reduceMul, Int.reduceEq, ← Bool.decide_and, ← Bool.decide_or, ↓tq_n, ↓tq_e, ↓tq_r, ↓bq_n, ↓bq_e, ↓bq_r, ↓rq_n, ↓rq_r, ↓rq_e]
        refine CallG.mk (r_coloring_Is n n1 e u1 false G .unk _) ?_
        rw [decide_eq_true gi1]
        simp only [F_law_ColoringLeastW, g_law_ColoringLeastW, go_sem, reduceIte, Nat.reduceEqDiff, Nat.reduceAdd, Nat.reduceMul, Nat.reduceSub, reduceCtorEq, Nat.reduceLeDiff, Nat.reduceLT, Int.reduceLT, Int.reduceLE, Int.reduceToNat, Int.reduceAdd, Int.reduceSub, Int.reduceNeg, Int.reduceMul, Int.reduceEq, ← Bool.decide_and, ← Bool.decide_or, ↓tq_n, ↓tq_e, ↓tq_r, ↓bq_n, ↓bq_e, ↓bq_r, ↓rq_n, ↓rq_r, ↓rq_e]
        refine CallG.mk (r_law_colors false G .unk _) ?_
        simp only [hq3, F_law_ColoringLeastW, g_law_ColoringLeastW, go_sem, reduceIte, Nat.reduceEqDiff, Nat.reduceAdd, Nat.reduceMul, Nat.reduceSub, reduceCtorEq, Nat.reduceLeDiff, Nat.reduceLT, Int.reduceLT, Int.reduceLE, Int.reduceToNat, Int.reduceAdd, Int.reduceSub, Int.reduceNeg, Int.reduceMul, Int.reduceEq, ← Bool.decide_and, ← Bool.decide_or, ↓tq_n, ↓tq_e, ↓tq_r, ↓bq_n, ↓bq_e, ↓bq_r, ↓rq_n, ↓rq_r, ↓rq_e]
        refine CallG.mk (r_coloring_Clique n1 n e u1 _) ?_
        rw [if_pos hv, if_pos hv, ← hM]
        simp only [asl, hq1, F_law_ColoringLeastW, g_law_ColoringLeastW, go_sem, reduceIte, Nat.reduceEqDiff, Nat.reduceAdd, Nat.reduceMul, Nat.reduceSub, reduceCtorEq, Nat.reduceLeDiff, Nat.reduceLT, Int.reduceLT, Int.reduceLE, Int.reduceToNat, Int.reduceAdd, Int.reduceSub, Int.reduceNeg, Int.reduceMul, Int.reduceEq, ← Bool.decide_and, ← Bool.decide_or, ↓tq_n, ↓tq_e, ↓tq_r, ↓bq_n, ↓bq_e, ↓bq_r, ↓rq_n, ↓rq_r, ↓rq_e]
        exact ret_ok (by rw [hq2]; simp)
      · have hgv : gV n e d = .tup [.sl true 0 [] .full, I 2] := by unfold gV; rw [if_pos hv, if_neg hp]
        rw [hgv]
        simp only [F_law_ColoringLeastW, g_law_ColoringLeastW, go_sem, reduceIte, Nat.reduceEqDiff, Nat.reduceAdd, Nat.reduceMul, Nat.reduceSub, reduceCtorEq, Nat.reduceLeDiff, Nat.reduceLT, Int.reduceLT, Int.reduceLE, Int.reduceToNat, Int.reduceAdd, Int.reduceSub, Int.reduceNeg, Int.reduceMul, Int.reduceEq, ← Bool.decide_and, ← Bool.decide_or, ↓tq_n, ↓tq_e, ↓tq_r, ↓bq_n, ↓bq_e, ↓bq_r, ↓rq_n, ↓rq_r, ↓rq_e]
        refine CallG.mk (r_coloring_Clique n1 n e u1 _) ?_
        rw [if_pos hv, if_pos hv, ← hM]
        simp only [asl, hq1, F_law_ColoringLeastW, g_law_ColoringLeastW, go_sem, reduceIte, Nat.reduceEqDiff, Nat.reduceAdd, Nat.reduceMul, Nat.reduceSub, reduceCtorEq, Nat.reduceLeDiff, Nat.reduceLT, Int.reduceLT, Int.reduceLE, Int.reduceToNat, Int.reduceAdd, Int.reduceSub, Int.reduceNeg, Int.reduceMul, Int.reduceEq, ← Bool.decide_and, ← Bool.decide_or, ↓tq_n, ↓tq_e, ↓tq_r, ↓bq_n, ↓bq_e, ↓bq_r, ↓rq_n, ↓rq_r, ↓rq_e]
        exact ret_ok (by rw [hq2]; simp)
  · rw [decide_eq_false hd]
    simp only [F_law_ColoringLeastW, g_law_ColoringLeastW, go_sem, reduceIte, Nat.reduceEqDiff, Nat.reduceAdd, Nat.reduceMul, Nat.reduceSub, reduceCtorEq, Nat.reduceLeDiff, Nat.reduceLT, Int.reduceLT, Int.reduceLE, Int.reduceToNat, Int.reduceAdd, Int.reduceSub, Int.reduceNeg, Int.reduceMul, Int.reduceEq, ← Bool.decide_and, ← Bool.decide_or, ↓tq_n, ↓tq_e, ↓tq_r, ↓bq_n, ↓bq_e, ↓bq_r, ↓rq_n, ↓rq_r, ↓rq_e]
    refine CallG.mk (r_coloring_Greedy n n1 e u1 n2 d u2 (by omega) _) ?_
    by_cases hp : Prm d n.toNat
    · obtain ⟨gi1, gi2⟩ := grd_isC hv hp
      have hgl := grd_len e d n.toNat n.toNat
      have hgv : gV n e d = .tup [.sl false n.toNat (i64s (grd e d n.toNat n.toNat)) .unk, I 0] := by unfold gV; rw [if_pos hv, if_pos hp]
      have hge := colN_ge gi1 (fun i hi => by have := gi2 i (by omega); omega)
      rw [← hK] at hge
      rw [hgv]
      obtain ⟨G, hG⟩ : ∃ G, G = grd e d n.toNat n.toNat := ⟨_, rfl⟩
      rw [← hG] at hgl gi1 hge ⊢
      rw [← hgl]
      have hq3 : ¬ (colN G : Int) < K := by omega
      simp only [F_law_ColoringLeastW, g_law_ColoringLeastW, go_sem, reduceIte, Nat.reduceEqDiff, Nat.reduceAdd, Nat.reduceMul, Nat.reduceSub, reduceCtorEq, Nat.reduceLeDiff, Nat.reduceLT, Int.reduceLT, Int.reduceLE, Int.reduceToNat, Int.reduceAdd, Int.reduceSub, Int.reduceNeg, Int.reduceMul, Int.reduceEq, ← Bool.decide_and, ← Bool.decide_or, ↓tq_n, ↓tq_e, ↓tq_r, ↓bq_n, ↓bq_e, ↓bq_r, ↓rq_n, ↓rq_r, ↓rq_e]
      refine CallG.mk (r_coloring_Is n n1 e u1 false G .unk _) ?_
      rw [decide_eq_true gi1]
      simp only [F_law_ColoringLeastW, g_law_ColoringLeastW, go_sem, reduceIte, Nat.reduceEqDiff, Nat.reduceAdd, Nat.reduceMul, Nat.reduceSub, reduceCtorEq, Nat.reduceLeDiff, Nat.reduceLT, Int.reduceLT, Int.reduceLE, Int.reduceToNat, Int.reduceAdd, Int.reduceSub, Int.reduceNeg, Int.reduceMul, Int.reduceEq, ← Bool.decide_and, ← Bool.decide_or, ↓tq_n, ↓tq_e, ↓tq_r, ↓bq_n, ↓bq_e, ↓bq_r, ↓rq_n, ↓rq_r, ↓rq_e]
      refine CallG.mk (r_law_colors false G .unk _) ?_
      simp only [hq3, F_law_ColoringLeastW, g_law_ColoringLeastW, go_sem, reduceIte, Nat.reduceEqDiff, Nat.reduceAdd, Nat.reduceMul, Nat.reduceSub, reduceCtorEq, Nat.reduceLeDiff, Nat.reduceLT, Int.reduceLT, Int.reduceLE, Int.reduceToNat, Int.reduceAdd, Int.reduceSub, Int.reduceNeg, Int.reduceMul, Int.reduceEq, ← Bool.decide_and, ← Bool.decide_or, ↓tq_n, ↓tq_e, ↓tq_r, ↓bq_n, ↓bq_e, ↓bq_r, ↓rq_n, ↓rq_r, ↓rq_e]
      refine CallG.mk (r_coloring_Clique n1 n e u1 _) ?_
      rw [if_pos hv, if_pos hv, ← hM]
      simp only [asl, hq1, F_law_ColoringLeastW, g_law_ColoringLeastW, go_sem, reduceIte, Nat.reduceEqDiff, Nat.reduceAdd, Nat.reduceMul, Nat.reduceSub, reduceCtorEq, Nat.reduceLeDiff, Nat.reduceLT, Int.reduceLT, Int.reduceLE, Int.reduceToNat, Int.reduceAdd, Int.reduceSub, Int.reduceNeg, Int.reduceMul, Int.reduceEq, ← Bool.decide_and, ← Bool.decide_or, ↓tq_n, ↓tq_e, ↓tq_r, ↓bq_n, ↓bq_e, ↓bq_r, ↓rq_n, ↓rq_r, ↓rq_e]
      exact ret_ok (by rw [hq2]; simp)
    · have hgv : gV n e d = .tup [.sl true 0 [] .full, I 2] := by unfold gV; rw [if_pos hv, if_neg hp]
      rw [hgv]
      simp only [F_law_ColoringLeastW, g_law_ColoringLeastW, go_sem, reduceIte, Nat.reduceEqDiff, Nat.reduceAdd, Nat.reduceMul, Nat.reduceSub, reduceCtorEq, Nat.reduceLeDiff, Nat.reduceLT, Int.reduceLT, Int.reduceLE, Int.reduceToNat, Int.reduceAdd, Int.reduceSub, Int.reduceNeg, Int.reduceMul, Int.reduceEq, ← Bool.decide_and, ← Bool.decide_or, ↓tq_n, ↓tq_e, ↓tq_r, ↓bq_n, ↓bq_e, ↓bq_r, ↓rq_n, ↓rq_r, ↓rq_e]
      refine CallG.mk (r_coloring_Clique n1 n e u1 _) ?_
      rw [if_pos hv, if_pos hv, ← hM]
      simp only [asl, hq1, F_law_ColoringLeastW, g_law_ColoringLeastW, go_sem, reduceIte, Nat.reduceEqDiff, Nat.reduceAdd, Nat.reduceMul, Nat.reduceSub, reduceCtorEq, Nat.reduceLeDiff, Nat.reduceLT, Int.reduceLT, Int.reduceLE, Int.reduceToNat, Int.reduceAdd, Int.reduceSub, Int.reduceNeg, Int.reduceMul, Int.reduceEq, ← Bool.decide_and, ← Bool.decide_or, ↓tq_n, ↓tq_e, ↓tq_r, ↓bq_n, ↓bq_e, ↓bq_r, ↓rq_n, ↓rq_r, ↓rq_e]
      exact ret_ok (by rw [hq2]; simp)
end Go.Proofs.Yticiimmfjdkimaa
