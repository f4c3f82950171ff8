/- The least number of colors: it is that of the colorings. No condition. -/
import Derived.Test.YticiimmfjdkimaaD7
namespace Go.Proofs.Yticiimmfjdkimaa
open Go Go.Abs
set_option linter.unusedSimpArgs false
set_option linter.unusedVariables false

/-- No two joined vertices of the first ones have one color. -/
def Pp (e : List (Int × Int)) (c : List Int) : Prop := ∀ i j : Nat, i < j → j < c.length → ((i : Int), (j : Int)) ∈ e → c.getD i 0 ≠ c.getD j 0
/-- Colors below k. -/
def Rg (k : Int) (c : List Int) : Prop := ∀ i : Nat, i < c.length → 0 ≤ c.getD i 0 ∧ c.getD i 0 < k
/-- There is a coloring with k colors. -/
def Kc (N : Nat) (e : List (Int × Int)) (k : Int) : Prop := ∃ d : List Int, d.length = N ∧ Pp e d ∧ Rg k d

theorem Pp.snoc {e : List (Int × Int)} {c : List Int} {x : Int} (h : Pp e c) (hb : blkd e c x = false) : Pp e (c ++ [x]) := by
  intro i j hij hj he
  simp only [List.length_append, List.length_cons, List.length_nil] at hj
  rw [getD_snoc, getD_snoc]
  by_cases hjc : j < c.length
  · rw [if_pos (by omega), if_pos hjc]; exact h i j hij hjc he
  · have hjc : j = c.length := by omega
    subst hjc
    rw [if_pos hij, if_neg (by omega), if_pos rfl]
    intro hc
    unfold blkd at hb
    simp only [List.any_eq_false, List.mem_range, decide_eq_true_eq] at hb
    exact hb i hij ⟨hc, he⟩
theorem Rg.snoc {k : Int} {c : List Int} {x : Int} (h : Rg k c) (h0 : 0 ≤ x) (hx : x < k) : Rg k (c ++ [x]) := by
  intro i hi
  simp only [List.length_append, List.length_cons, List.length_nil] at hi
  rw [getD_snoc]
  split
  · exact h i (by assumption)
  · rw [if_pos (by omega)]; exact ⟨h0, hx⟩
theorem usedTo_nonneg (c : List Int) (k : Nat) : 0 ≤ usedTo c k := by
  induction k with
  | zero => simp [usedTo]
  | succ k ih => simp only [usedTo]; omega
theorem tryC_sound {f : Int → Option (List Int)} : ∀ (m : Nat) (x : Int) (r : List Int), tryC f m x = some r → ∃ y, x ≤ y ∧ y < x + m ∧ f y = some r := by
  intro m
  induction m with
  | zero => intro x r h; cases h
  | succ m ih =>
    intro x r h
    simp only [tryC] at h
    split at h
    · rename_i r' hr; cases h; exact ⟨x, by omega, by omega, hr⟩
    · obtain ⟨y, h1, h2, h3⟩ := ih (x + 1) r h; exact ⟨y, by omega, by omega, h3⟩
theorem ext_sound (e : List (Int × Int)) (k : Int) : ∀ (f : Nat) (c r : List Int), Pp e c → Rg k c → ext e k f c = some r → r.length = c.length + f ∧ Pp e r ∧ Rg k r := by
  intro f
  induction f with
  | zero => intro c r hp hr h; cases h; exact ⟨rfl, hp, hr⟩
  | succ f ih =>
    intro c r hp hr h
    simp only [ext] at h
    obtain ⟨y, h1, h2, h3⟩ := tryC_sound _ _ _ h
    split at h3
    · cases h3
    · rename_i hb
      have hb' : blkd e c y = false := by simpa using hb
      have := ih (c ++ [y]) r (hp.snoc hb') (hr.snoc h1 (by omega)) h3
      refine ⟨?_, this.2⟩
      have := this.1
      simp only [List.length_append, List.length_cons, List.length_nil] at this
      omega

/-- Two colors are exchanged. -/
def swp (a b y : Int) : Int := if y = a then b else if y = b then a else y
theorem swp_inj {a b x y : Int} (h : swp a b x = swp a b y) : x = y := by
  unfold swp at h
  split at h <;> split at h <;> (try split at h) <;> (try split at h) <;> omega
theorem getD_map (g : Int → Int) (d : List Int) {i : Nat} (h : i < d.length) : (d.map g).getD i 0 = g (d.getD i 0) := by simp [List.getD, h]
theorem getD_take (d : List Int) {i n : Nat} (h : i < n) : (d.take n).getD i 0 = d.getD i 0 := by
  simp only [List.getD, List.getElem?_take, if_pos h]
theorem take_succ_getD {d : List Int} {n : Nat} (h : n < d.length) : d.take (n + 1) = d.take n ++ [d.getD n 0] := by
  rw [List.take_succ_eq_append_getElem h]; simp [List.getD, h]
theorem ext_complete (e : List (Int × Int)) (k : Int) : ∀ (f : Nat) (c d : List Int), d.length = c.length + f → d.take c.length = c → Pp e d → Rg k d → (ext e k f c).isSome = true := by
  intro f
  induction f with
  | zero => intro c d _ _ _ _; rfl
  | succ f ih =>
    intro c d hl ht hp hr
    -- with a next color that is tried
    have key : ∀ d : List Int, d.length = c.length + (f + 1) → d.take c.length = c → Pp e d → Rg k d → d.getD c.length 0 ≤ usedTo c c.length → (ext e k (f + 1) c).isSome = true := by
      intro d hl ht hp hr hx
      have hrx := hr c.length (by omega)
      simp only [ext]
      refine tryC_some _ 0 (d.getD c.length 0) hrx.1 (by omega) ?_
      have hb : blkd e c (d.getD c.length 0) = false := by
        unfold blkd
        simp only [List.any_eq_false, List.mem_range, decide_eq_true_eq]
        rintro i hi ⟨h1, h2⟩
        refine hp i c.length hi (by omega) h2 ?_
        have e1 := getD_take d hi
        rw [ht] at e1
        rw [← e1, h1]
      rw [hb, if_neg (by simp)]
      refine ih (c ++ [d.getD c.length 0]) d (by simp only [List.length_append, List.length_cons, List.length_nil]; omega) ?_ hp hr
      rw [List.length_append, List.length_cons, List.length_nil, Nat.zero_add, take_succ_getD (by omega), ht]
    by_cases hx : d.getD c.length 0 ≤ usedTo c c.length
    · exact key d hl ht hp hr hx
    · have hu0 := usedTo_nonneg c c.length
      have hrx := hr c.length (by omega)
      generalize hxx : d.getD c.length 0 = x at *
      generalize huu : usedTo c c.length = u at *
      refine key (d.map (swp x u)) (by simp [hl]) ?_ ?_ ?_ ?_
      · rw [← List.map_take, ht]
        have : ∀ y ∈ c, swp x u y = y := by
          intro y hy
          obtain ⟨i, hi, hiy⟩ := List.getElem_of_mem hy
          have h1 := usedTo_gt (c := c) c.length i hi
          have h2 : c.getD i 0 = y := by simp [List.getD, hi, hiy]
          rw [huu, h2] at h1
          unfold swp
          rw [if_neg (by omega), if_neg (by omega)]
        exact (List.map_congr_left this).trans (List.map_id' c)
      · intro i j hij hj he
        rw [List.length_map] at hj
        rw [getD_map _ _ (by omega), getD_map _ _ hj]
        exact fun hh => hp i j hij hj he (swp_inj hh)
      · intro i hi
        rw [List.length_map] at hi
        rw [getD_map _ _ hi]
        have := hr i hi
        unfold swp
        split
        · omega
        · split <;> omega
      · rw [getD_map _ _ (by omega), hxx]
        unfold swp
        simp

theorem ext_iff (N : Nat) (e : List (Int × Int)) (k : Int) : (ext e k N []).isSome = true ↔ Kc N e k := by
  constructor
  · intro h
    obtain ⟨r, hr⟩ := Option.isSome_iff_exists.1 h
    have := ext_sound e k N [] r (fun i j _ hj => by simp at hj) (fun i hi => by simp at hi) hr
    exact ⟨r, by simpa using this.1, this.2⟩
  · rintro ⟨d, h1, h2, h3⟩
    exact ext_complete e k N [] d (by simpa using h1) (by simp) h2 h3
theorem chi_kc {n : Int} {e : List (Int × Int)} (hv : Vd n e) : 0 ≤ chi n e ∧ chi n e ≤ n ∧ Kc n.toNat e (chi n e) ∧ ∀ j : Int, 0 ≤ j → Kc n.toNat e j → chi n e ≤ j := by
  obtain ⟨k, hk, hchi, hsome, hnone⟩ := chi_spec hv
  have := hv.1
  refine ⟨by omega, by omega, by rw [hchi]; exact (ext_iff _ _ _).1 hsome, fun j hj hc => ?_⟩
  rw [hchi]
  rcases Int.lt_or_le j k with h | h
  · have h1 := hnone j.toNat (by omega)
    have h2 := (ext_iff _ _ _).2 hc
    rw [show ((j.toNat : Nat) : Int) = j by omega] at h1
    rw [h1] at h2; cases h2
  · exact h

/-! ### Graphs, by their pairs -/
def plt (p q : Int × Int) : Prop := p.1 < q.1 ∨ p.1 = q.1 ∧ p.2 < q.2
theorem plt.trans {p q r : Int × Int} (h : plt p q) (k : plt q r) : plt p r := by unfold plt at *; omega
theorem vd_iff {n : Int} {e : List (Int × Int)} : Vd n e ↔ 0 ≤ n ∧ n ≤ 12 ∧ (∀ p ∈ e, 0 ≤ p.1 ∧ p.1 < p.2 ∧ p.2 < n) ∧ e.Pairwise plt := by
  constructor
  · intro h
    refine ⟨h.1, h.2.1, fun p hp => vd_mem h hp, ?_⟩
    have step : ∀ d i : Nat, i + d + 1 < e.length → plt (e.getD i (0, 0)) (e.getD (i + d + 1) (0, 0)) := by
      intro d
      induction d with
      | zero =>
        intro i hi
        have := h.2.2 (i + 1) hi
        unfold pOK at this
        simpa [plt] using this.2.2.2 (by omega)
      | succ d ih =>
        intro i hi
        refine (ih i (by omega)).trans ?_
        have := h.2.2 (i + (d + 1) + 1) hi
        unfold pOK at this
        have := this.2.2.2 (by omega)
        rw [show i + (d + 1) + 1 - 1 = i + d + 1 by omega] at this
        exact this
    rw [List.pairwise_iff_getElem]
    intro i j hi hj hij
    have := step (j - i - 1) i (by omega)
    rw [show i + (j - i - 1) + 1 = j by omega] at this
    simpa [List.getD, hi, hj] using this
  · rintro ⟨h0, h12, hm, hp⟩
    refine ⟨h0, h12, fun i hi => ?_⟩
    have := hm _ (mem_getD (d := ((0 : Int), (0 : Int))) hi)
    refine ⟨this.1, this.2.1, this.2.2, fun hi0 => ?_⟩
    rw [List.pairwise_iff_getElem] at hp
    have := hp (i - 1) i (by omega) hi (by omega)
    simpa [List.getD, hi, show i - 1 < e.length by omega, plt] using this

/-! ### Without a pair -/
theorem vd_less {n : Int} {e : List (Int × Int)} (hv : Vd n e) (k : Nat) : Vd n (e.take k ++ e.drop (k + 1)) := by
  have hsub : (e.take k ++ e.drop (k + 1)).Sublist e := by
    conv => rhs; rw [← List.take_append_drop k e]
    exact (List.Sublist.refl _).append (List.drop_sublist_drop_left _ (Nat.le_succ k))
  obtain ⟨h0, h12, hm, hp⟩ := vd_iff.1 hv
  exact vd_iff.2 ⟨h0, h12, fun p hpm => hm p (hsub.subset hpm), hp.sublist hsub⟩
theorem kc_less {N : Nat} {e : List (Int × Int)} {k : Nat} {c : Int} (h : Kc N e c) : Kc N (e.take k ++ e.drop (k + 1)) c := by
  obtain ⟨d, h1, h2, h3⟩ := h
  refine ⟨d, h1, fun i j hij hj he => h2 i j hij hj ?_, h3⟩
  rcases List.mem_append.1 he with he | he
  · exact List.mem_of_mem_take he
  · exact List.mem_of_mem_drop he
theorem mem_less {e : List (Int × Int)} {k : Nat} (hk : k < e.length) {p : Int × Int} (hp : p ∈ e) : p = e.getD k (0, 0) ∨ p ∈ e.take k ++ e.drop (k + 1) := by
  have : e = e.take k ++ e.getD k (0, 0) :: e.drop (k + 1) := by
    conv => lhs; rw [← List.take_append_drop k e, getD_drop e (0, 0) hk]
  rw [this] at hp
  rcases List.mem_append.1 hp with h | h
  · exact .inr (List.mem_append_left _ h)
  · rcases List.mem_cons.1 h with h | h
    · exact .inl h
    · exact .inr (List.mem_append_right _ h)
theorem kc_more1 {n : Int} {e : List (Int × Int)} (hv : Vd n e) {k : Nat} (hk : k < e.length) {c : Int} (h0 : 0 ≤ c) (h : Kc n.toNat (e.take k ++ e.drop (k + 1)) c) : Kc n.toNat e (c + 1) := by
  obtain ⟨d, h1, h2, h3⟩ := h
  have hp := vd_mem hv (mem_getD (d := ((0 : Int), (0 : Int))) hk)
  generalize hpp : e.getD k (0, 0) = p at hp
  have gs : ∀ i : Nat, i < d.length → (d.set p.1.toNat c).getD i 0 = if i = p.1.toNat then c else d.getD i 0 := by
    intro i hi
    simp only [List.getD, List.getElem?_set]
    by_cases hip : i = p.1.toNat
    · subst hip; simp [hi]
    · rw [if_neg (fun hh => hip hh.symm), if_neg hip]
  refine ⟨d.set p.1.toNat c, by simpa using h1, fun i j hij hj he => ?_, fun i hi => ?_⟩
  · rw [List.length_set] at hj
    rw [gs i (by omega), gs j hj]
    have r1 := h3 i (by omega)
    have r2 := h3 j hj
    have hne : (i : Int) ≠ j := by omega
    by_cases hip : i = p.1.toNat
    · rw [if_pos hip, if_neg (by omega)]; omega
    · rw [if_neg hip]
      by_cases hjp : j = p.1.toNat
      · rw [if_pos hjp]; omega
      · rw [if_neg hjp]
        refine h2 i j hij hj ?_
        rcases mem_less hk he with hh | hh
        · rw [hpp] at hh
          exact absurd (by rw [← hh]; simp) hip
        · exact hh
  · rw [List.length_set] at hi
    rw [gs i hi]
    have := h3 i hi
    split <;> omega

/-! ### With one vertex more that is joined with all -/
/-- The pairs from vertex i, of the first j ones. -/
def rowTo (e : List (Int × Int)) (i : Nat) : Nat → List (Int × Int)
  | 0 => []
  | j + 1 => rowTo e i j ++ if (e.getD j (0, 0)).1 = i then [e.getD j (0, 0)] else []
def moreTo (e : List (Int × Int)) (n : Int) : Nat → List (Int × Int)
  | 0 => []
  | i + 1 => moreTo e n i ++ rowTo e i e.length ++ [((i : Int), n)]
theorem rowTo_len (e : List (Int × Int)) (i j : Nat) : (rowTo e i j).length ≤ j := by
  induction j with
  | zero => simp [rowTo]
  | succ j ih => simp only [rowTo, List.length_append]; split <;> simp <;> omega
theorem moreTo_len (e : List (Int × Int)) (n : Int) (i : Nat) : (moreTo e n i).length ≤ i * (e.length + 1) := by
  induction i with
  | zero => simp [moreTo]
  | succ i ih =>
    simp only [moreTo, List.length_append, List.length_cons, List.length_nil]
    have := rowTo_len e i e.length
    rw [Nat.add_mul]; omega
theorem mem_rowTo {e : List (Int × Int)} {i : Nat} {p : Int × Int} : ∀ {j : Nat}, j ≤ e.length → (p ∈ rowTo e i j ↔ p ∈ e.take j ∧ p.1 = i) := by
  intro j
  induction j with
  | zero => intro _; simp [rowTo]
  | succ j ih =>
    intro hj
    have ht : e.take (j + 1) = e.take j ++ [e.getD j (0, 0)] := by
      rw [List.take_succ_eq_append_getElem (by omega)]; simp [List.getD, show j < e.length by omega]
    simp only [rowTo, List.mem_append, ih (by omega), ht]
    constructor
    · rintro (h | h)
      · exact ⟨.inl h.1, h.2⟩
      · split at h
        · rename_i hh; simp only [List.mem_singleton] at h; subst h; exact ⟨.inr (by simp), hh⟩
        · cases h
    · rintro ⟨h | h, h2⟩
      · exact .inl ⟨h, h2⟩
      · simp only [List.mem_singleton] at h
        subst h
        rw [if_pos h2]; simp
theorem rowTo_pw {e : List (Int × Int)} (hp : e.Pairwise plt) (i : Nat) : ∀ {j : Nat}, j ≤ e.length → (rowTo e i j).Pairwise plt := by
  intro j
  induction j with
  | zero => intro _; exact .nil
  | succ j ih =>
    intro hj
    simp only [rowTo]
    refine List.pairwise_append.2 ⟨ih (by omega), by split <;> simp, fun a ha b hb => ?_⟩
    split at hb
    · simp only [List.mem_singleton] at hb
      subst hb
      have h1 := ((mem_rowTo (by omega)).1 ha).1
      obtain ⟨k, hk, rfl⟩ := List.getElem_of_mem h1
      rw [List.length_take] at hk
      rw [List.pairwise_iff_getElem] at hp
      have := hp k j (by omega) (by omega) (by omega)
      simpa [List.getD, show j < e.length by omega] using this
    · cases hb
theorem mem_moreTo {e : List (Int × Int)} {n : Int} {p : Int × Int} : ∀ {i : Nat}, p ∈ moreTo e n i ↔ (0 ≤ p.1 ∧ p.1 < i) ∧ (p ∈ e ∨ p.2 = n) := by
  intro i
  induction i with
  | zero => simp [moreTo]; intro h1 h2; omega
  | succ i ih =>
    simp only [moreTo, List.mem_append, ih, mem_rowTo (Nat.le_refl _), List.take_length, List.mem_singleton]
    constructor
    · rintro ((h | h) | h)
      · exact ⟨by omega, h.2⟩
      · exact ⟨by omega, .inl h.1⟩
      · subst h; exact ⟨by simp; omega, .inr rfl⟩
    · rintro ⟨h1, h2⟩
      by_cases hi : p.1 < i
      · exact .inl (.inl ⟨by omega, h2⟩)
      · have hi : p.1 = i := by omega
        rcases h2 with h2 | h2
        · exact .inl (.inr ⟨h2, hi⟩)
        · exact .inr (Prod.ext hi h2)
theorem moreTo_pw {n : Int} {e : List (Int × Int)} (hm : ∀ p ∈ e, 0 ≤ p.1 ∧ p.1 < p.2 ∧ p.2 < n) (hp : e.Pairwise plt) (i : Nat) : (moreTo e n i).Pairwise plt := by
  induction i with
  | zero => exact .nil
  | succ i ih =>
    simp only [moreTo]
    refine List.pairwise_append.2 ⟨List.pairwise_append.2 ⟨ih, rowTo_pw hp i (Nat.le_refl _), fun a ha b hb => ?_⟩, by simp, fun a ha b hb => ?_⟩
    · have h1 := (mem_moreTo.1 ha).1
      have h2 := ((mem_rowTo (Nat.le_refl _)).1 hb).2
      exact .inl (by omega)
    · simp only [List.mem_singleton] at hb
      subst hb
      rcases List.mem_append.1 ha with ha | ha
      · have h1 := (mem_moreTo.1 ha).1
        exact .inl (by simpa using h1.2)
      · have h2 := (mem_rowTo (Nat.le_refl _)).1 ha
        have h3 := hm a (by simpa using h2.1)
        exact .inr ⟨h2.2, h3.2.2⟩
theorem vd_more {n : Int} {e : List (Int × Int)} (hv : Vd n e) (hn : n ≠ 12) : Vd (n + 1) (moreTo e n n.toNat) := by
  obtain ⟨h0, h12, hm, hp⟩ := vd_iff.1 hv
  refine vd_iff.2 ⟨by omega, by omega, fun p hpm => ?_, moreTo_pw hm hp _⟩
  obtain ⟨h1, h2⟩ := mem_moreTo.1 hpm
  rcases h2 with h2 | h2
  · have := hm p h2; omega
  · omega
theorem kc_up {n : Int} {e : List (Int × Int)} (hv : Vd n e) {c : Int} (h0 : 0 ≤ c) (h : Kc n.toNat e c) : Kc (n + 1).toNat (moreTo e n n.toNat) (c + 1) := by
  obtain ⟨d, h1, h2, h3⟩ := h
  have hn := hv.1
  refine ⟨d ++ [c], by simp; omega, fun i j hij hj he => ?_, fun i hi => ?_⟩
  · simp only [List.length_append, List.length_cons, List.length_nil] at hj
    rw [getD_snoc, getD_snoc]
    rw [if_pos (by omega)]
    have r1 := h3 i (by omega)
    by_cases hjd : j < d.length
    · rw [if_pos hjd]
      refine h2 i j hij hjd ?_
      rcases (mem_moreTo.1 he).2 with h | h
      · exact h
      · simp only at h; omega
    · rw [if_neg hjd, if_pos (by omega)]; omega
  · simp only [List.length_append, List.length_cons, List.length_nil] at hi
    rw [getD_snoc]
    split
    · have := h3 i (by assumption); omega
    · rw [if_pos (by omega)]; omega
theorem kc_down {n : Int} {e : List (Int × Int)} (hv : Vd n e) {c : Int} (h : Kc (n + 1).toNat (moreTo e n n.toNat) c) : 1 ≤ c ∧ Kc n.toNat e (c - 1) := by
  obtain ⟨d, h1, h2, h3⟩ := h
  have hn := hv.1
  have hx := h3 n.toNat (by omega)
  generalize hxx : d.getD n.toNat 0 = x at hx
  have hdif : ∀ i : Nat, i < n.toNat → d.getD i 0 ≠ x := by
    intro i hi
    rw [← hxx]
    refine h2 i n.toNat hi (by omega) (mem_moreTo.2 ⟨by simp; omega, .inr (by simp; omega)⟩)
  have gm : ∀ i : Nat, i < n.toNat → ((d.take n.toNat).map fun y => if y = c - 1 then x else y).getD i 0 = if d.getD i 0 = c - 1 then x else d.getD i 0 := by
    intro i hi
    rw [getD_map _ _ (by rw [List.length_take]; omega), getD_take _ hi]
  refine ⟨by omega, (d.take n.toNat).map fun y => if y = c - 1 then x else y, by simp; omega, fun i j hij hj he => ?_, fun i hi => ?_⟩
  · rw [List.length_map, List.length_take] at hj
    rw [gm i (by omega), gm j (by omega)]
    have hm' := vd_mem hv he
    simp only at hm'
    have := h2 i j hij (by omega) (mem_moreTo.2 ⟨by simp; omega, .inl he⟩)
    have d1 := hdif i (by omega)
    have d2 := hdif j (by omega)
    split <;> split <;> omega
  · rw [List.length_map, List.length_take] at hi
    rw [gm i (by omega)]
    have d1 := hdif i (by omega)
    have := h3 i (by omega)
    split <;> omega
/-- The numbers of colors of the three graphs. -/
theorem chi_less {n : Int} {e : List (Int × Int)} (hv : Vd n e) {k : Nat} (hk : k < e.length) : chi n (e.take k ++ e.drop (k + 1)) ≤ chi n e ∧ chi n e - 1 ≤ chi n (e.take k ++ e.drop (k + 1)) := by
  obtain ⟨a0, _, a1, a2⟩ := chi_kc hv
  obtain ⟨b0, _, b1, b2⟩ := chi_kc (vd_less hv k)
  refine ⟨b2 _ a0 (kc_less a1), ?_⟩
  have := a2 _ (by omega) (kc_more1 hv hk b0 b1)
  omega
theorem chi_more {n : Int} {e : List (Int × Int)} (hv : Vd n e) (hn : n ≠ 12) : chi (n + 1) (moreTo e n n.toNat) = chi n e + 1 := by
  obtain ⟨a0, _, a1, a2⟩ := chi_kc hv
  obtain ⟨b0, _, b1, b2⟩ := chi_kc (vd_more hv hn)
  have h1 := b2 _ (by omega) (kc_up hv a0 a1)
  have h2 := kc_down hv b1
  have h3 := a2 _ (by omega) h2.2
  omega
end Go.Proofs.Yticiimmfjdkimaa
