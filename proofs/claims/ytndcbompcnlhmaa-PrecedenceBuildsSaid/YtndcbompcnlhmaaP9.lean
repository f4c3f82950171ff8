/- Plain facts: least numbers of pieces that lead to a place. No condition. -/
import Derived.Test.YtndcbompcnlhmaaA23
import Derived.Test.YtndcbompcnlhmaaD1
namespace Go.Proofs.Ytndcbompcnlhmaa
open Go Go.Abs
set_option linter.unusedSimpArgs false
set_option linter.unusedVariables false

abbrev T3 := Int × Int × Int
abbrev d3 : T3 := (0, 0, 0)
abbrev fv (f : List Int) (v : Int) : Int := f.getD v.toNat 0
/-- The pieces are between places. -/
def Pc (n : Nat) (P : List T3) : Prop := ∀ p ∈ P, (0 ≤ p.2.1 ∧ p.2.1 < n) ∧ (0 ≤ p.2.2 ∧ p.2.2 < n)
/-- A table of steps. -/
structure St (n : Nat) (P : List T3) (b : Int) (f : List Int) : Prop where
  len : f.length = n
  at0 : fv f b = 0
  low : ∀ v : Nat, v < n → -1 ≤ f.getD v 0
  zer : ∀ v : Nat, v < n → f.getD v 0 = 0 → (v : Int) = b
  wit : ∀ v : Nat, v < n → 0 < f.getD v 0 → ∃ p ∈ P, p.2.1 = v ∧ fv f p.2.2 = f.getD v 0 - 1
def okA (f : List Int) (p : T3) : Prop := 0 ≤ fv f p.2.1 ∧ fv f p.2.1 ≤ fv f p.2.2 + 1
structure Dst (n : Nat) (P : List T3) (b : Int) (f : List Int) : Prop where
  st : St n P b f
  arc : ∀ p ∈ P, 0 ≤ fv f p.2.2 → okA f p
theorem getD_set0 {f : List Int} {i : Nat} {v : Int} (hi : i < f.length) (j : Nat) : (f.set i v).getD j 0 = if j = i then v else f.getD j 0 := by
  simp only [List.getD, List.getElem?_set]
  by_cases h : i = j
  · subst h; simp [hi]
  · rw [if_neg h, if_neg (fun hh => h hh.symm)]
section
variable {n : Nat} {P : List T3} {b : Int}
theorem dst_le (hP : Pc n P) {f g : List Int} (hf : Dst n P b f) (hg : Dst n P b g) (hb : 0 ≤ b ∧ b < n) : ∀ (k : Nat) (v : Nat), v < n → f.getD v 0 = k → 0 ≤ g.getD v 0 ∧ g.getD v 0 ≤ k := by
  intro k
  induction k with
  | zero =>
    intro v hv h
    have := hf.st.zer v hv (by simpa using h)
    have h2 := hg.st.at0
    unfold fv at h2
    rw [← this, Int.toNat_natCast] at h2
    omega
  | succ k ih =>
    intro v hv h
    obtain ⟨p, hp, e1, e2⟩ := hf.st.wit v hv (by omega)
    have hq := hP p hp
    have h1 := ih p.2.2.toNat (by omega) (by show fv f p.2.2 = k; omega)
    have h2 := hg.arc p hp h1.1
    unfold okA at h2
    have e3 : fv g p.2.1 = g.getD v 0 := by unfold fv; rw [e1, Int.toNat_natCast]
    rw [e3] at h2
    have h4 : fv g p.2.2 ≤ k := h1.2
    omega
theorem dst_uniq (hP : Pc n P) {f g : List Int} (hf : Dst n P b f) (hg : Dst n P b g) (hb : 0 ≤ b ∧ b < n) : f = g := by
  refine List.ext_getElem (by rw [hf.st.len, hg.st.len]) fun v h1 h2 => ?_
  have hv : v < n := by rw [← hf.st.len]; exact h1
  have k1 := dst_le hP hf hg hb (f.getD v 0).toNat v hv
  have k2 := dst_le hP hg hf hb (g.getD v 0).toNat v hv
  have l1 := hf.st.low v hv
  have l2 := hg.st.low v hv
  have e1 : f[v] = f.getD v 0 := by simp [List.getD, h1]
  have e2 : g[v] = g.getD v 0 := by simp [List.getD, h2]
  rw [e1, e2]
  by_cases c1 : 0 ≤ f.getD v 0
  · have a1 := k1 (by omega)
    have a2 := k2 (by omega)
    omega
  · by_cases c2 : 0 ≤ g.getD v 0
    · have a2 := k2 (by omega)
      omega
    · omega
/-- A place that has no number yet gets one. -/
theorem St.set {f : List Int} (h : St n P b f) {v : Nat} (hv : v < n) (hn : f.getD v 0 < 0) {d : Int} (hd : 0 ≤ d) {p : T3} (hp : p ∈ P) (h1 : p.2.1 = v) (h2 : fv f p.2.2 = d) (hq : 0 ≤ p.2.2) : St n P b (f.set v (d + 1)) := by
  have hl : v < f.length := by rw [h.len]; exact hv
  have key := fun j => getD_set0 (f := f) (v := d + 1) hl j
  refine ⟨by rw [List.length_set]; exact h.len, ?_, fun w hw => ?_, fun w hw hz => ?_, fun w hw hz => ?_⟩
  · unfold fv
    rw [key, if_neg (fun hh => ?_)]
    · exact h.at0
    · have := h.at0
      unfold fv at this
      rw [hh] at this
      omega
  · rw [key]; split
    · omega
    · exact h.low w hw
  · rw [key] at hz
    split at hz
    · omega
    · exact h.zer w hw hz
  · rw [key] at hz
    split at hz
    · rename_i hwv
      subst hwv
      refine ⟨p, hp, h1, ?_⟩
      unfold fv
      rw [key, key, if_pos rfl, if_neg (fun hh => ?_)]
      · unfold fv at h2; omega
      · unfold fv at h2; rw [hh] at h2; omega
    · rename_i hwv
      obtain ⟨q, q1, q2, q3⟩ := h.wit w hw hz
      refine ⟨q, q1, q2, ?_⟩
      unfold fv
      rw [key, key, if_neg hwv, if_neg (fun hh => ?_)]
      · exact q3
      · unfold fv at q3; rw [hh] at q3; omega
theorem okA_set {f : List Int} (hl : f.length = n) {v : Nat} (hv : v < n) (hn : f.getD v 0 < 0) (x : Int) {p : T3} (h0 : 0 ≤ fv f p.2.2) (h : okA f p) : okA (f.set v x) p := by
  have key := fun j => getD_set0 (f := f) (v := x) (show v < f.length by omega) j
  unfold okA fv at *
  rw [key, key, if_neg (fun hh => by rw [hh] at h; omega), if_neg (fun hh => by rw [hh] at h0; omega)]
  exact h

/-- The reference's rounds. -/
def fwK (P : List T3) (k : Nat) (f : List Int) : Nat → List Int
  | 0 => f
  | j + 1 => if fv (fwK P k f j) (P.getD j d3).2.2 = k ∧ fv (fwK P k f j) (P.getD j d3).2.1 < 0 then (fwK P k f j).set (P.getD j d3).2.1.toNat (k + 1) else fwK P k f j
def fwR (P : List T3) (f : List Int) : Nat → List Int
  | 0 => f
  | k + 1 => fwK P k (fwR P f k) P.length
def far (n : Nat) (P : List T3) (b : Int) : List Int := fwR P ((List.replicate n (-1)).set b.toNat 0) n
structure Rd2 (n : Nat) (P : List T3) (b : Int) (k j : Nat) (f : List Int) : Prop where
  st : St n P b f
  bd : ∀ v : Nat, v < n → f.getD v 0 ≤ k + 1
  bk : j = 0 → ∀ v : Nat, v < n → f.getD v 0 ≤ k
  lt : ∀ p ∈ P, 0 ≤ fv f p.2.2 → fv f p.2.2 < k → okA f p
  eq : ∀ i, i < j → fv f (P.getD i d3).2.2 = k → okA f (P.getD i d3)
theorem rd_step (hP : Pc n P) {k j : Nat} {f : List Int} (h : Rd2 n P b k 0 f) : ∀ j, j ≤ P.length → Rd2 n P b k j (fwK P k f j) := by
  intro j
  induction j with
  | zero => intro _; exact h
  | succ j ih =>
    intro hj
    have hr := ih (by omega)
    have hpm : P.getD j d3 ∈ P := mem_getD (by omega)
    obtain ⟨q1, q2⟩ := hP _ hpm
    unfold fwK
    obtain ⟨r, hrr⟩ : ∃ r, r = fwK P k f j := ⟨_, rfl⟩
    rw [← hrr] at hr ⊢
    obtain ⟨p, hpp⟩ : ∃ p, p = P.getD j d3 := ⟨_, rfl⟩
    rw [← hpp] at hpm q1 q2 ⊢
    by_cases hc : fv r p.2.2 = k ∧ fv r p.2.1 < 0
    · rw [if_pos hc]
      have hv : p.2.1.toNat < n := by omega
      have key := fun i => getD_set0 (f := r) (v := (k : Int) + 1) (show p.2.1.toNat < r.length by rw [hr.st.len]; exact hv) i
      have keep : ∀ w : Int, 0 ≤ fv (r.set p.2.1.toNat (k + 1)) w → fv (r.set p.2.1.toNat (k + 1)) w ≤ k → 0 ≤ fv r w ∧ fv (r.set p.2.1.toNat (k + 1)) w = fv r w := fun w h1 h2 => by
        unfold fv at h1 h2 ⊢
        rw [key] at h1 h2 ⊢
        split at h2
        · omega
        · rename_i hne
          rw [if_neg hne] at h1 ⊢
          exact ⟨h1, rfl⟩
      refine ⟨hr.st.set hv hc.2 (by omega) hpm (by omega) hc.1 q2.1, fun v hv2 => ?_, fun h0 => (by omega), fun p2 h2 h3 h4 => ?_, fun i hi h3 => ?_⟩
      · rw [key]; split
        · omega
        · exact hr.bd v hv2
      · obtain ⟨a1, a2⟩ := keep _ h3 (by omega)
        exact okA_set hr.st.len hv hc.2 _ a1 (hr.lt p2 h2 a1 (by omega))
      · obtain ⟨a1, a2⟩ := keep (P.getD i d3).2.2 (by omega) (by omega)
        rcases Nat.lt_succ_iff_lt_or_eq.1 hi with hi | rfl
        · exact okA_set hr.st.len hv hc.2 _ a1 (hr.eq i hi (by omega))
        · rw [← hpp] at h3 a1 a2 ⊢
          unfold okA
          have e1 : fv (r.set p.2.1.toNat (k + 1)) p.2.1 = k + 1 := by unfold fv; rw [key, if_pos rfl]
          omega
    · rw [if_neg hc]
      refine ⟨hr.st, hr.bd, fun h0 => (by omega), hr.lt, fun i hi h3 => ?_⟩
      rcases Nat.lt_succ_iff_lt_or_eq.1 hi with hi | rfl
      · exact hr.eq i hi h3
      · rw [← hpp] at h3 ⊢
        have h5 := hr.bd p.2.1.toNat (by omega)
        unfold okA
        have h6 : 0 ≤ fv r p.2.1 := by
          by_cases h7 : fv r p.2.1 < 0
          · exact absurd ⟨h3, h7⟩ hc
          · omega
        refine ⟨h6, ?_⟩
        show r.getD p.2.1.toNat 0 ≤ _
        omega
theorem rd_all (hP : Pc n P) {f : List Int} (h : Rd2 n P b 0 0 f) : ∀ k, Rd2 n P b k 0 (fwR P f k) := by
  intro k
  induction k with
  | zero => exact h
  | succ k ih =>
    have hr := rd_step hP (j := 0) ih P.length (Nat.le_refl _)
    unfold fwR
    refine ⟨hr.st, fun v hv => by have := hr.bd v hv; omega, fun _ v hv => by have := hr.bd v hv; omega, fun p hp h1 h2 => ?_, fun i hi => absurd hi (Nat.not_lt_zero _)⟩
    by_cases h3 : fv (fwK P k (fwR P f k) P.length) p.2.2 < k
    · exact hr.lt p hp h1 h3
    · obtain ⟨i, hi, e⟩ := List.getElem_of_mem hp
      have e2 : P.getD i d3 = p := by simp [List.getD, hi, e]
      have := hr.eq i hi (by rw [e2]; omega)
      rwa [e2] at this
/-- All smaller numbers occur. -/
theorem st_chain {f : List Int} (h : St n P b f) (hP : Pc n P) : ∀ (k : Nat) (v : Nat), v < n → f.getD v 0 = k → ∃ A : List Nat, A.length = k + 1 ∧ A.Nodup ∧ ∀ x ∈ A, x < n ∧ f.getD x 0 ≤ k := by
  intro k
  induction k with
  | zero => intro v hv hk; exact ⟨[v], rfl, by simp, fun x hx => by simp at hx; subst hx; exact ⟨hv, by omega⟩⟩
  | succ k ih =>
    intro v hv hk
    obtain ⟨p, hp, e1, e2⟩ := h.wit v hv (by omega)
    have hq := hP p hp
    obtain ⟨A, a1, a2, a3⟩ := ih p.2.2.toNat (by omega) (by show fv f p.2.2 = k; omega)
    refine ⟨v :: A, by simp [a1], List.nodup_cons.2 ⟨fun hm => by have := (a3 v hm).2; omega, a2⟩, fun x hx => ?_⟩
    rcases List.mem_cons.1 hx with rfl | hx
    · exact ⟨hv, by omega⟩
    · have := a3 x hx; exact ⟨this.1, by omega⟩
theorem nd_lt : ∀ {A : List Nat} {n : Nat}, A.Nodup → (∀ x ∈ A, x < n) → A.length ≤ n := by
  intro A n hA h
  induction n generalizing A with
  | zero =>
    cases A with
    | nil => simp
    | cons x A => have := h x (by simp); omega
  | succ n ih =>
    by_cases hm : n ∈ A
    · have h1 := ih (A := A.erase n) (hA.erase n) (fun x hx => by
        have h2 := h x (List.mem_of_mem_erase hx)
        have h3 : x ≠ n := fun hh => by subst hh; exact absurd hx (List.Nodup.not_mem_erase hA)
        omega)
      rw [List.length_erase_of_mem hm] at h1
      omega
    · have h1 := ih hA (fun x hx => by
        have h2 := h x hx
        have h3 : x ≠ n := fun hh => by subst hh; exact hm hx
        omega)
      omega
theorem st_bd {f : List Int} (h : St n P b f) (hP : Pc n P) {v : Nat} (hv : v < n) : f.getD v 0 < n := by
  by_cases h0 : 0 ≤ f.getD v 0
  · obtain ⟨A, a1, a2, a3⟩ := st_chain h hP (f.getD v 0).toNat v hv (by omega)
    have := nd_lt a2 (fun x hx => (a3 x hx).1)
    omega
  · omega
theorem st_start (hb : 0 ≤ b ∧ b < n) : St n P b ((List.replicate n (-1)).set b.toNat 0) ∧ ∀ v : Nat, v < n → ((List.replicate n (-1)).set b.toNat (0 : Int)).getD v 0 = if (v : Int) = b then 0 else -1 := by
  have key := fun j => getD_set0 (f := List.replicate n (-1)) (v := 0) (show b.toNat < (List.replicate n (-1 : Int)).length by rw [List.length_replicate]; omega) j
  have hv : ∀ v : Nat, v < n → ((List.replicate n (-1)).set b.toNat (0 : Int)).getD v 0 = if (v : Int) = b then 0 else -1 := fun v hv => by
    rw [key]
    by_cases h : (v : Int) = b
    · rw [if_pos h, if_pos (by omega)]
    · rw [if_neg h, if_neg (by omega)]
      simp [List.getD, hv]
  refine ⟨⟨by simp, ?_, fun v h => ?_, fun v h h2 => ?_, fun v h h2 => ?_⟩, hv⟩
  · have := hv b.toNat (by omega)
    unfold fv
    rw [this, if_pos (by omega)]
  · rw [hv v h]; split <;> omega
  · rw [hv v h] at h2
    split at h2
    · assumption
    · omega
  · rw [hv v h] at h2
    split at h2 <;> omega
theorem far_dst (hP : Pc n P) (hb : 0 ≤ b ∧ b < n) : Dst n P b (far n P b) := by
  obtain ⟨s1, s2⟩ := st_start (P := P) hb
  have h0 : Rd2 n P b 0 0 ((List.replicate n (-1)).set b.toNat 0) := by
    refine ⟨s1, fun v hv => ?_, fun _ v hv => ?_, fun p hp h1 h2 => ?_, fun i hi => absurd hi (Nat.not_lt_zero _)⟩
    · rw [s2 v hv]; split <;> omega
    · rw [s2 v hv]; split <;> omega
    · omega
  have h := rd_all hP h0 n
  refine ⟨h.st, fun p hp h1 => h.lt p hp h1 ?_⟩
  have := hP p hp
  have h2 := st_bd h.st hP (v := p.2.2.toNat) (by omega)
  exact h2
end
end Go.Proofs.Ytndcbompcnlhmaa
namespace Go.Proofs.Ytndcbompcnlhmaa
open Go Go.Abs
set_option linter.unusedSimpArgs false
set_option linter.unusedVariables false

section
variable {n : Nat} {P : List T3} {b : Int}
/-- Between two rounds over the queue. -/
structure BQ (n : Nat) (P : List T3) (b : Int) (f qs : List Int) : Prop where
  st : St n P b f
  rng : ∀ x ∈ qs, (0 ≤ x ∧ x < n) ∧ 0 ≤ fv f x
  srt : qs.Pairwise fun x y => fv f x ≤ fv f y
  bd : ∀ x, qs.head? = some x → ∀ v : Nat, v < n → f.getD v 0 ≤ fv f x + 1
  done : ∀ p ∈ P, 0 ≤ fv f p.2.2 → p.2.2 ∉ qs → okA f p
/-- One piece at the head of the queue. -/
def bf1 (u : Int) (s : List Int × List Int) (p : T3) : List Int × List Int := if p.2.2 = u ∧ fv s.1 p.2.1 < 0 then (s.1.set p.2.1.toNat (fv s.1 p.2.2 + 1), s.2 ++ [p.2.1]) else s
def BI (n : Nat) (P : List T3) (b u : Int) (j : Nat) (s : List Int × List Int) : Prop := (∃ rest, s.2 = u :: rest) ∧ BQ n P b s.1 s.2 ∧ ∀ i, i < j → (P.getD i d3).2.2 = u → okA s.1 (P.getD i d3)
def ngs (f : List Int) : Nat := f.countP fun x => decide (x < 0)
theorem ngs_set {f : List Int} {i : Nat} {v : Int} (hi : i < f.length) (h : f.getD i 0 < 0) (hv : 0 ≤ v) : ngs (f.set i v) + 1 = ngs f := by
  unfold ngs
  have hpos : 0 < f.countP fun x => decide (x < 0) := List.countP_pos_iff.2 ⟨f[i], List.getElem_mem hi, by
    have : f[i] = f.getD i 0 := by simp [List.getD, hi]
    rw [this]; exact decide_eq_true h⟩
  rw [List.countP_set hi]
  have e1 : f[i] < 0 := by
    have : f[i] = f.getD i 0 := by simp [List.getD, hi]
    omega
  simp only [e1, decide_true, if_true, show ¬ v < 0 by omega, decide_false, Bool.false_eq_true, if_false]
  omega
theorem bi_step (hP : Pc n P) {u : Int} {j : Nat} (hj : j < P.length) {s : List Int × List Int} (h : BI n P b u j s) : BI n P b u (j + 1) (bf1 u s (P.getD j d3)) ∧ ngs (bf1 u s (P.getD j d3)).1 + (bf1 u s (P.getD j d3)).2.length = ngs s.1 + s.2.length := by
  obtain ⟨⟨rest, hrest⟩, hq, he⟩ := h
  obtain ⟨f, qs⟩ := s
  simp only at hrest hq he
  subst hrest
  have hpm : P.getD j d3 ∈ P := mem_getD hj
  obtain ⟨q1, q2⟩ := hP _ hpm
  obtain ⟨p, hpp⟩ : ∃ p, p = P.getD j d3 := ⟨_, rfl⟩
  rw [← hpp] at hpm q1 q2 ⊢
  have hu := hq.rng u (by simp)
  unfold bf1
  by_cases hc : p.2.2 = u ∧ fv f p.2.1 < 0
  · rw [if_pos hc]
    have hv : p.2.1.toNat < n := by omega
    have hvl : p.2.1.toNat < f.length := by rw [hq.st.len]; exact hv
    have hd0 : 0 ≤ fv f p.2.2 := by rw [hc.1]; exact hu.2
    have key := fun i => getD_set0 (f := f) (v := fv f p.2.2 + 1) hvl i
    have same : ∀ w : Int, 0 ≤ fv f w → fv (f.set p.2.1.toNat (fv f p.2.2 + 1)) w = fv f w := fun w hw => by
      unfold fv at hw ⊢
      rw [key, if_neg (fun hh => ?_)]
      rw [hh] at hw
      have := hc.2
      unfold fv at this
      omega
    have new : fv (f.set p.2.1.toNat (fv f p.2.2 + 1)) p.2.1 = fv f p.2.2 + 1 := by
      show (f.set p.2.1.toNat (fv f p.2.2 + 1)).getD p.2.1.toNat 0 = _
      rw [key, if_pos rfl]
    have hb := hq.bd u rfl
    refine ⟨⟨⟨rest ++ [p.2.1], rfl⟩, ⟨hq.st.set hv hc.2 hd0 hpm (by omega) rfl q2.1, fun x hx => ?_, ?_, fun x hx v hv2 => ?_, fun p2 h2 h3 h4 => ?_⟩, fun i hi h3 => ?_⟩, ?_⟩
    · simp only at hx ⊢
      rcases List.mem_append.1 hx with hx | hx
      · have := hq.rng x hx
        rw [same x this.2]; exact this
      · simp at hx
        subst hx
        rw [new]
        exact ⟨q1, by omega⟩
    · simp only
      refine List.pairwise_append.2 ⟨?_, List.pairwise_singleton _ _, fun x hx y hy => ?_⟩
      · refine hq.srt.imp_of_mem fun hx hy hxy => ?_
        rw [same _ (hq.rng _ hx).2, same _ (hq.rng _ hy).2]; exact hxy
      · simp at hy
        subst hy
        have := hq.rng x hx
        rw [new, same x this.2, hc.1]
        have := hb x.toNat (by omega)
        exact this
    · simp only at hx ⊢
      have : x = u := by simpa using hx.symm
      subst this
      rw [same x hu.2, key]
      split
      · rw [hc.1]; omega
      · exact hb v hv2
    · simp only at h3 h4 ⊢
      have h5 : p2.2.2 ≠ p.2.1 := fun hh => h4 (by rw [hh]; simp)
      have h6 : fv (f.set p.2.1.toNat (fv f p.2.2 + 1)) p2.2.2 = fv f p2.2.2 := by
        unfold fv
        rw [key, if_neg (fun hh => h5 ?_)]
        have := (hP p2 h2).2
        omega
      rw [h6] at h3
      exact okA_set hq.st.len hv hc.2 _ h3 (hq.done p2 h2 h3 (fun hh => h4 (List.mem_append.2 (.inl hh))))
    · simp only
      rcases Nat.lt_succ_iff_lt_or_eq.1 hi with hi | rfl
      · have := he i hi h3
        exact okA_set hq.st.len hv hc.2 _ (by rw [h3]; exact hu.2) this
      · rw [← hpp] at h3 ⊢
        unfold okA
        rw [new, same _ hd0]
        omega
    · simp only [List.length_append, List.length_singleton]
      have := ngs_set hvl hc.2 (show (0 : Int) ≤ fv f p.2.2 + 1 by omega)
      omega
  · rw [if_neg hc]
    refine ⟨⟨⟨rest, rfl⟩, hq, fun i hi h3 => ?_⟩, rfl⟩
    rcases Nat.lt_succ_iff_lt_or_eq.1 hi with hi | rfl
    · exact he i hi h3
    · rw [← hpp] at h3 ⊢
      have h6 : 0 ≤ fv f p.2.1 := by
        by_cases h7 : fv f p.2.1 < 0
        · exact absurd ⟨h3, h7⟩ hc
        · omega
      refine ⟨h6, ?_⟩
      have := hq.bd u rfl p.2.1.toNat (by omega)
      rw [h3]
      exact this
theorem bi_pop {u : Int} {f rest : List Int} (h : BI n P b u P.length (f, u :: rest)) : BQ n P b f rest := by
  obtain ⟨_, hq, he⟩ := h
  simp only at hq he
  have hp := List.pairwise_cons.1 hq.srt
  refine ⟨hq.st, fun x hx => hq.rng x (by simp [hx]), hp.2, fun x hx v hv => ?_, fun p hpm h1 h2 => ?_⟩
  · have hxm : x ∈ rest := List.mem_of_mem_head? hx
    have h1 := hq.bd u rfl v hv
    have h2 := hp.1 x hxm
    omega
  · by_cases hu : p.2.2 = u
    · obtain ⟨i, hi, e⟩ := List.getElem_of_mem hpm
      have e2 : P.getD i d3 = p := by simp [List.getD, hi, e]
      have := he i hi (by rw [e2]; exact hu)
      rwa [e2] at this
    · exact hq.done p hpm h1 (by simp [hu, h2])
theorem bq_end {f : List Int} (h : BQ n P b f []) : Dst n P b f := ⟨h.st, fun p hp h1 => h.done p hp h1 (by simp)⟩
theorem bq_start (hP : Pc n P) (hb : 0 ≤ b ∧ b < n) : BQ n P b ((List.replicate n (-1)).set b.toNat 0) [b] := by
  obtain ⟨s1, s2⟩ := st_start (P := P) hb
  refine ⟨s1, fun x hx => ?_, List.pairwise_singleton _ _, fun x hx v hv => ?_, fun p hp h1 h2 => ?_⟩
  · simp at hx; subst hx
    exact ⟨hb, by have := s1.at0; omega⟩
  · simp at hx; subst hx
    rw [s2 v hv, s1.at0]; split <;> omega
  · have hr := (hP p hp).2
    unfold fv at h1
    rw [s2 _ (show p.2.2.toNat < n by omega)] at h1
    split at h1
    · refine absurd ?_ h2
      rw [List.mem_singleton]
      omega
    · omega
end
/-- The Id at a place. -/
def idA (l : List Spm) (v : Int) : Int := (l.getD v.toNat dS).id
/-- A piece before another one: nearer, the smaller Id, the smaller kind. -/
def btr (l : List Spm) (f : List Int) (p q : T3) : Prop := fv f p.2.2 < fv f q.2.2 ∨ fv f p.2.2 = fv f q.2.2 ∧ (idA l p.2.2 < idA l q.2.2 ∨ idA l p.2.2 = idA l q.2.2 ∧ p.1 < q.1)
instance (l : List Spm) (f : List Int) (p q : T3) : Decidable (btr l f p q) := by unfold btr; infer_instance
/-- The best of the first pieces from a place. -/
def bst (l : List Spm) (f : List Int) (P : List T3) (at_ : Int) : Nat → Option T3
  | 0 => none
  | j + 1 => if (P.getD j d3).2.1 = at_ ∧ 0 ≤ fv f (P.getD j d3).2.2 then
      (match bst l f P at_ j with
      | none => some (P.getD j d3)
      | some q => if btr l f (P.getD j d3) q then some (P.getD j d3) else some q)
    else bst l f P at_ j
/-- The chain from a place. -/
def wyF (l : List Spm) (f : List Int) (P : List T3) (goal : Int) : Nat → Int → Option (List T3)
  | 0, _ => none
  | k + 1, at_ => match bst l f P at_ P.length with
    | none => none
    | some p => if p.2.2 = goal then some [(p.1, idA l at_, idA l p.2.2)] else (wyF l f P goal k p.2.2).map ((p.1, idA l at_, idA l p.2.2) :: ·)
theorem bst_spec {l : List Spm} {f : List Int} {P : List T3} {at_ : Int} : ∀ {j : Nat}, j ≤ P.length → (∀ q, bst l f P at_ j = some q → q ∈ P ∧ q.2.1 = at_ ∧ 0 ≤ fv f q.2.2 ∧ ∀ i, i < j → (P.getD i d3).2.1 = at_ → 0 ≤ fv f (P.getD i d3).2.2 → fv f q.2.2 ≤ fv f (P.getD i d3).2.2) ∧ (bst l f P at_ j = none → ∀ i, i < j → (P.getD i d3).2.1 = at_ → ¬ 0 ≤ fv f (P.getD i d3).2.2) := by
  intro j
  induction j with
  | zero => intro _; exact ⟨fun q (h : none = some q) => (by cases h), fun _ i hi => absurd hi (Nat.not_lt_zero _)⟩
  | succ j ih =>
    intro hj
    obtain ⟨i1, i2⟩ := ih (by omega)
    have hpm : P.getD j d3 ∈ P := mem_getD (by omega)
    obtain ⟨p, hpp⟩ : ∃ p, p = P.getD j d3 := ⟨_, rfl⟩
    unfold bst
    rw [← hpp] at hpm ⊢
    by_cases hc : p.2.1 = at_ ∧ 0 ≤ fv f p.2.2
    · rw [if_pos hc]
      cases hb : bst l f P at_ j with
      | none =>
        refine ⟨fun q h => ?_, fun h => by cases h⟩
        simp only [Option.some.injEq] at h
        subst h
        refine ⟨hpm, hc.1, hc.2, fun i hi h1 h2 => ?_⟩
        rcases Nat.lt_succ_iff_lt_or_eq.1 hi with hi | rfl
        · exact absurd h2 (i2 hb i hi h1)
        · rw [← hpp]; exact Int.le_refl _
      | some q0 =>
        obtain ⟨k1, k2, k3, k4⟩ := i1 q0 hb
        simp only
        by_cases hbt : btr l f p q0
        · rw [if_pos hbt]
          refine ⟨fun q h => ?_, fun h => by cases h⟩
          simp only [Option.some.injEq] at h
          subst h
          have hle : fv f p.2.2 ≤ fv f q0.2.2 := by unfold btr at hbt; omega
          refine ⟨hpm, hc.1, hc.2, fun i hi h1 h2 => ?_⟩
          rcases Nat.lt_succ_iff_lt_or_eq.1 hi with hi | rfl
          · have := k4 i hi h1 h2; omega
          · rw [← hpp]; exact Int.le_refl _
        · rw [if_neg hbt]
          refine ⟨fun q h => ?_, fun h => by cases h⟩
          simp only [Option.some.injEq] at h
          subst h
          have hle : fv f q0.2.2 ≤ fv f p.2.2 := by unfold btr at hbt; omega
          refine ⟨k1, k2, k3, fun i hi h1 h2 => ?_⟩
          rcases Nat.lt_succ_iff_lt_or_eq.1 hi with hi | rfl
          · exact k4 i hi h1 h2
          · rw [← hpp]; exact hle
    · rw [if_neg hc]
      refine ⟨fun q h => ?_, fun h i hi h1 h2 => ?_⟩
      · obtain ⟨k1, k2, k3, k4⟩ := i1 q h
        refine ⟨k1, k2, k3, fun i hi h1 h2 => ?_⟩
        rcases Nat.lt_succ_iff_lt_or_eq.1 hi with hi | rfl
        · exact k4 i hi h1 h2
        · rw [← hpp] at h1 h2; exact absurd ⟨h1, h2⟩ hc
      · rcases Nat.lt_succ_iff_lt_or_eq.1 hi with hi | rfl
        · exact i2 h i hi h1 h2
        · rw [← hpp] at h1 h2; exact hc ⟨h1, h2⟩
theorem bst_dec {n : Nat} {l : List Spm} {f : List Int} {P : List T3} {b : Int} (hP : Pc n P) (h : Dst n P b f) {v : Int} (hv : 0 ≤ v ∧ v < n) (h0 : 0 < fv f v) : ∃ q, bst l f P v P.length = some q ∧ q ∈ P ∧ q.2.1 = v ∧ fv f q.2.2 = fv f v - 1 := by
  obtain ⟨p, hp, e1, e2⟩ := h.st.wit v.toNat (by omega) h0
  have e1 : p.2.1 = v := by omega
  obtain ⟨i, hi, e⟩ := List.getElem_of_mem hp
  have e3 : P.getD i d3 = p := by simp [List.getD, hi, e]
  have e4 : fv f p.2.2 = fv f v - 1 := e2
  obtain ⟨s1, s2⟩ := bst_spec (l := l) (f := f) (P := P) (at_ := v) (j := P.length) (Nat.le_refl _)
  cases hb : bst l f P v P.length with
  | none => exact absurd (by rw [e3]; omega) (s2 hb i hi (by rw [e3]; exact e1))
  | some q =>
    obtain ⟨k1, k2, k3, k4⟩ := s1 q hb
    refine ⟨q, rfl, k1, k2, ?_⟩
    have h5 := k4 i hi (by rw [e3]; exact e1) (by rw [e3]; omega)
    rw [e3] at h5
    have h6 := (h.arc q k1 k3).2
    rw [k2] at h6
    omega
end Go.Proofs.Ytndcbompcnlhmaa
