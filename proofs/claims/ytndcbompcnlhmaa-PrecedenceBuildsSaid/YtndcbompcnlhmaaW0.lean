/- Ways and cycles; what Warshall's closure says; vertices that are taken away. No program in sight. -/
import Derived.Test.YtndcbompcnlhmaaR0
namespace Go.Proofs.Ytndcbompcnlhmaa
open Go Go.Abs
set_option linter.unusedSimpArgs false
set_option linter.unusedVariables false

/-- A way of at least one step. -/
inductive Way (E : Nat → Nat → Prop) : Nat → Nat → Prop where
  | one {i j : Nat} (h : E i j) : Way E i j
  | step {i k j : Nat} (h : E i k) (t : Way E k j) : Way E i j
theorem Way.trans {E : Nat → Nat → Prop} {i k j : Nat} (h : Way E i k) (t : Way E k j) : Way E i j := by
  induction h with
  | one h => exact .step h t
  | step h _ ih => exact .step h (ih t)
theorem Way.mono {E F : Nat → Nat → Prop} (hm : ∀ i j, E i j → F i j) {i j : Nat} (h : Way E i j) : Way F i j := by
  induction h with
  | one h => exact .one (hm _ _ h)
  | step h _ ih => exact .step (hm _ _ h) ih
/-- The last step. -/
theorem Way.last {E : Nat → Nat → Prop} {i j : Nat} (h : Way E i j) : ∃ u, E u j ∧ (u = i ∨ Way E i u) := by
  induction h with
  | one h => exact ⟨_, h, .inl rfl⟩
  | step h _ ih =>
    obtain ⟨u, h1, h2⟩ := ih
    rcases h2 with rfl | h2
    · exact ⟨_, h1, .inr (.one h)⟩
    · exact ⟨u, h1, .inr (.step h h2)⟩
theorem Way.first {E : Nat → Nat → Prop} {i j : Nat} (h : Way E i j) : ∃ u, E i u := by
  cases h with
  | one h => exact ⟨_, h⟩
  | step h _ => exact ⟨_, h⟩

/-- Ways over vertices below m. -/
def PM (E : Nat → Nat → Prop) : Nat → Nat → Nat → Prop
  | 0, i, j => E i j
  | m + 1, i, j => PM E m i j ∨ (PM E m i m ∧ PM E m m j)
theorem PM.way {E : Nat → Nat → Prop} : ∀ {m i j : Nat}, PM E m i j → Way E i j := by
  intro m
  induction m with
  | zero => intro i j h; exact .one h
  | succ m ih =>
    intro i j h
    rcases h with h | ⟨h1, h2⟩
    · exact ih h
    · exact (ih h1).trans (ih h2)
theorem PM.trans {E : Nat → Nat → Prop} : ∀ {m i k j : Nat}, k < m → PM E m i k → PM E m k j → PM E m i j := by
  intro m
  induction m with
  | zero => intro i k j h; omega
  | succ m ih =>
    intro i k j hk h1 h2
    rcases Nat.lt_or_ge k m with hlt | hge
    · rcases h1 with h1 | ⟨h1, h1'⟩ <;> rcases h2 with h2 | ⟨h2, h2'⟩
      · exact .inl (ih hlt h1 h2)
      · exact .inr ⟨ih hlt h1 h2, h2'⟩
      · exact .inr ⟨h1, ih hlt h1' h2⟩
      · exact .inr ⟨h1, h2'⟩
    · have : k = m := by omega
      subst this
      have a : PM E k i k := by rcases h1 with h1 | ⟨h1, _⟩ <;> exact h1
      have b : PM E k k j := by rcases h2 with h2 | ⟨_, h2⟩ <;> exact h2
      exact .inr ⟨a, b⟩
theorem PM.mono {E : Nat → Nat → Prop} {i j : Nat} (h : E i j) : ∀ m, PM E m i j := by
  intro m
  induction m with
  | zero => exact h
  | succ m ih => exact .inl ih
theorem Way.pm {E : Nat → Nat → Prop} {n : Nat} (hn : ∀ i j, E i j → i < n ∧ j < n) {i j : Nat} (h : Way E i j) : PM E n i j := by
  induction h with
  | one h => exact PM.mono h n
  | step h _ ih => exact PM.trans (hn _ _ h).2 (PM.mono h n) ih

/-- The relation of sets of vertices. -/
def BE (out : List Nat) (i j : Nat) : Prop := bt out i j = true
theorem wi_bt {m : Nat} {out : List Nat} (hm : m < out.length) : ∀ k, k ≤ out.length → ∀ i j, bt (wi m out k) i j = if i < k ∧ bt out i m = true then (bt out i j || bt out m j) else bt out i j := by
  intro k
  induction k with
  | zero => intro _ i j; simp [wi]
  | succ k ih =>
    intro hk i j
    have ih := ih (by omega)
    have hkm : bt (wi m out k) k m = bt out k m := by rw [ih k m, if_neg (fun h => by omega)]
    have hrow : (wi m out k).getD m 0 = out.getD m 0 := by
      refine Nat.eq_of_testBit_eq fun q => ?_
      have := ih m q
      unfold bt at this
      rw [this]
      split <;> simp
    have hrk : (wi m out k).getD k 0 = out.getD k 0 := by
      refine Nat.eq_of_testBit_eq fun q => ?_
      have := ih k q
      unfold bt at this
      rw [this, if_neg (fun h => by omega)]
    unfold wi
    by_cases hb : bt out k m = true
    · rw [if_pos (by rw [hkm]; exact hb)]
      unfold bt
      rw [getD_set (by rw [wi_len]; omega)]
      by_cases hi : k = i
      · subst hi
        rw [if_pos rfl, hrow, hrk, Nat.testBit_or, if_pos ⟨by omega, hb⟩]
      · rw [if_neg hi]
        have := ih i j
        unfold bt at this
        rw [this]
        have e : (i < k ∧ (out.getD i 0).testBit m = true) ↔ (i < k + 1 ∧ (out.getD i 0).testBit m = true) := by
          constructor
          · intro h; exact ⟨by omega, h.2⟩
          · intro h; exact ⟨by omega, h.2⟩
        simp only [e]
    · rw [if_neg (by rw [hkm]; exact hb), ih i j]
      have e : (i < k ∧ bt out i m = true) ↔ (i < k + 1 ∧ bt out i m = true) := by
        constructor
        · intro h; exact ⟨by omega, h.2⟩
        · intro h
          refine ⟨?_, h.2⟩
          rcases Nat.lt_or_ge i k with h1 | h1
          · exact h1
          · have : i = k := by omega
            subst this
            exact absurd h.2 hb
      simp only [e]
theorem wr_pm {n : Nat} {out : List Nat} (hl : out.length = n) : ∀ m, m ≤ n → ∀ i j, i < n → (bt (wr n out m) i j = true ↔ PM (BE out) m i j) := by
  intro m
  induction m with
  | zero => intro _ i j _; exact Iff.rfl
  | succ m ih =>
    intro hm i j hi
    have hml : m < (wr n out m).length := by rw [wr_len, hl]; omega
    rw [wr, wi_bt hml n (by rw [wr_len, hl]; exact Nat.le_refl _)]
    have h1 := ih (by omega) i j hi
    have h2 := ih (by omega) i m hi
    have h3 := ih (by omega) m j (by omega)
    show _ ↔ PM (BE out) m i j ∨ (PM (BE out) m i m ∧ PM (BE out) m m j)
    rw [← h1, ← h2, ← h3]
    by_cases hb : bt (wr n out m) i m = true
    · rw [if_pos ⟨hi, hb⟩, Bool.or_eq_true]
      simp [hb]
    · rw [if_neg (fun h => hb h.2)]
      simp [hb]
/-- Warshall's closure: the ways. -/
theorem wr_way {n : Nat} {out : List Nat} (hl : out.length = n) (hn : ∀ i j, bt out i j = true → i < n ∧ j < n) {i j : Nat} (hi : i < n) : bt (wr n out n) i j = true ↔ Way (BE out) i j := by
  rw [wr_pm hl n (Nat.le_refl _) i j hi]
  exact ⟨PM.way, Way.pm hn⟩

/-- How many vertices a way leads from. -/
noncomputable def anc (E : Nat → Nat → Prop) (n v : Nat) : Nat := by
  classical exact ((List.range n).filter fun u => decide (Way E u v)).length
theorem filter_lt {p q : Nat → Bool} {n u : Nat} (hu : u < n) (h1 : q u = true) (h2 : p u = false) (hi : ∀ x, p x = true → q x = true) : ((List.range n).filter p).length < ((List.range n).filter q).length := by
  induction n with
  | zero => omega
  | succ n ih =>
    rw [List.range_succ, List.filter_append, List.filter_append, List.length_append, List.length_append]
    have hle : ∀ m, ((List.range m).filter p).length ≤ ((List.range m).filter q).length := by
      intro m
      induction m with
      | zero => simp
      | succ m ihm =>
        rw [List.range_succ, List.filter_append, List.filter_append, List.length_append, List.length_append]
        have : ([m].filter p).length ≤ ([m].filter q).length := by
          cases hp : p m with
          | false => simp [hp]
          | true => simp [hp, hi m hp]
        omega
    rcases Nat.lt_or_ge u n with h | h
    · have := ih h
      have h3 : ([n].filter p).length ≤ ([n].filter q).length := by
        cases hp : p n with
        | false => simp [hp]
        | true => simp [hp, hi n hp]
      omega
    · have : u = n := by omega
      subst this
      have := hle u
      simp [h1, h2]
      omega
theorem anc_lt {E : Nat → Nat → Prop} {n u v : Nat} (hu : u < n) (h : E u v) (hc : ¬ Way E u u) : anc E n u < anc E n v := by
  classical
  unfold anc
  exact filter_lt hu (decide_eq_true (.one h)) (decide_eq_false hc) fun x hx => decide_eq_true ((of_decide_eq_true hx).trans (.one h))
/-- Where each of some vertices has one of them ahead, there is a cycle. -/
theorem cycle_of {E : Nat → Nat → Prop} {n : Nat} {S : Nat → Prop} (hS : ∀ v, S v → v < n) (hp : ∀ v, S v → ∃ u, S u ∧ E u v) {v : Nat} (hv : S v) : ∃ u, S u ∧ Way E u u := by
  refine Classical.byContradiction fun hn => ?_
  have key : ∀ k v, S v → anc E n v = k → False := by
    intro k
    induction k using Nat.strongRecOn with
    | _ k ih =>
      intro v hv hk
      obtain ⟨u, h1, h2⟩ := hp v hv
      have := anc_lt (hS u h1) h2 (fun hc => hn ⟨u, h1, hc⟩)
      exact ih _ (by omega) u h1 rfl
  exact key _ v hv rfl
/-- Vertices that were taken away: closed against the arcs, and on no cycle. -/
def Gone (E : Nat → Nat → Prop) (g : Nat → Prop) : Prop := (∀ u v, E u v → g v → g u) ∧ ∀ v, g v → ¬ Way E v v
theorem Gone.way {E : Nat → Nat → Prop} {g : Nat → Prop} (h : Gone E g) {u v : Nat} (hw : Way E u v) (hv : g v) : g u := by
  induction hw with
  | one e => exact h.1 _ _ e hv
  | step e _ ih => exact h.1 _ _ e (ih hv)
theorem Gone.add {E : Nat → Nat → Prop} {g : Nat → Prop} (h : Gone E g) {v : Nat} (hg : ¬ g v) (hv : ∀ u, E u v → g u) : Gone E (fun x => g x ∨ x = v) := by
  refine ⟨fun u x e hx => ?_, fun x hx hc => ?_⟩
  · rcases hx with hx | rfl
    · exact .inl (h.1 _ _ e hx)
    · exact .inl (hv _ e)
  · rcases hx with hx | rfl
    · exact h.2 x hx hc
    · obtain ⟨u, h1, h2⟩ := hc.last
      have hu := hv u h1
      rcases h2 with rfl | h2
      · exact hg hu
      · exact hg (h.way h2 hu)
/-- Nothing more can be taken away: what is left holds a cycle. -/
theorem gone_end {E : Nat → Nat → Prop} {n : Nat} {g : Nat → Prop} (hE : ∀ i j, E i j → i < n ∧ j < n) (h : Gone E g) (hend : ∀ v, v < n → ¬ g v → ∃ u, E u v ∧ ¬ g u) : (∃ v, v < n ∧ ¬ g v) ↔ ∃ v, v < n ∧ Way E v v := by
  constructor
  · rintro ⟨v, h1, h2⟩
    obtain ⟨u, ⟨h3, _⟩, h4⟩ := cycle_of (n := n) (S := fun v => v < n ∧ ¬ g v) (fun v h => h.1) (fun v ⟨h1, h2⟩ => by
      obtain ⟨u, h3, h4⟩ := hend v h1 h2
      exact ⟨u, ⟨(hE _ _ h3).1, h4⟩, h3⟩) ⟨h1, h2⟩
    exact ⟨u, h3, h4⟩
  · rintro ⟨v, h1, h2⟩
    exact ⟨v, h1, fun hg => h.2 v hg h2⟩
end Go.Proofs.Ytndcbompcnlhmaa
