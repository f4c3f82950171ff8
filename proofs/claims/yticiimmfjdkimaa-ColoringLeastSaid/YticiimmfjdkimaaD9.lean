/- The first of the largest cliques: two ways to look for it agree. No condition. -/
import Derived.Test.YticiimmfjdkimaaD8
import Derived.Test.YticiimmfjdkimaaA20
namespace Go.Abs
open Go

/-- A list stands before another one. -/
def bef : List Int → List Int → Bool
  | a :: xs, b :: ys => if a = b then bef xs ys else decide (a < b)
  | _, _ => false
theorem bef_app (s t u : List Int) : bef (s ++ t) (s ++ u) = bef t u := by
  induction s with
  | nil => rfl
  | cons a s ih => simp [bef, ih]
theorem bef_irr (s : List Int) : bef s s = false := by
  induction s with
  | nil => rfl
  | cons a s ih => simp [bef, ih]
theorem bef_trans {a b c : List Int} (h : bef a b = true) (k : bef b c = true) : bef a c = true := by
  induction a generalizing b c with
  | nil => cases b <;> simp [bef] at h
  | cons x a ih =>
    cases b with
    | nil => simp [bef] at h
    | cons y b =>
      cases c with
      | nil => simp [bef] at k
      | cons z c =>
        simp only [bef] at *
        split at h
        · split at k
          · rw [if_pos (by omega)]; exact ih h k
          · simp only [decide_eq_true_eq] at k; rw [if_neg (by omega)]; simp only [decide_eq_true_eq]; omega
        · simp only [decide_eq_true_eq] at h
          split at k
          · rw [if_neg (by omega)]; simp only [decide_eq_true_eq]; omega
          · simp only [decide_eq_true_eq] at k; rw [if_neg (by omega)]; simp only [decide_eq_true_eq]; omega
theorem bef_asymm {a b : List Int} (h : bef a b = true) : bef b a = false := by
  cases hb : bef b a with
  | false => rfl
  | true => have := bef_trans h hb; rw [bef_irr] at this; cases this
theorem bef_total {a b : List Int} (h : a.length = b.length) (hne : a ≠ b) : bef a b = true ∨ bef b a = true := by
  induction a generalizing b with
  | nil => cases b with
    | nil => exact absurd rfl hne
    | cons => simp at h
  | cons x a ih =>
    cases b with
    | nil => simp at h
    | cons y b =>
      simp only [bef]
      by_cases hxy : x = y
      · subst hxy; simp only [if_true]
        exact ih (by simpa using h) (fun hh => hne (by rw [hh]))
      · have hyx : ¬ y = x := fun hh => hxy hh.symm
        simp only [hxy, hyx, if_false, decide_eq_true_eq]; omega
/-- Longer, or of one length and not behind. -/
def Bt (a b : List Int) : Prop := b.length < a.length ∨ (a.length = b.length ∧ (a = b ∨ bef a b = true))
theorem Bt.refl (a : List Int) : Bt a a := .inr ⟨rfl, .inl rfl⟩
theorem Bt.trans {a b c : List Int} (h : Bt a b) (k : Bt b c) : Bt a c := by
  rcases h with h | ⟨h, h'⟩
  · rcases k with k | ⟨k, _⟩
    · exact .inl (by omega)
    · exact .inl (by omega)
  · rcases k with k | ⟨k, k'⟩
    · exact .inl (by omega)
    · refine .inr ⟨by omega, ?_⟩
      rcases h' with rfl | h'
      · exact k'
      · rcases k' with rfl | k'
        · exact .inr h'
        · exact .inr (bef_trans h' k')
theorem Bt.anti {a b : List Int} (h : Bt a b) (k : Bt b a) : a = b := by
  rcases h with h | ⟨h, h'⟩
  · rcases k with k | ⟨k, _⟩ <;> omega
  · rcases k with k | ⟨k, k'⟩
    · omega
    · rcases h' with rfl | h'
      · rfl
      · rcases k' with rfl | k'
        · rfl
        · rw [bef_asymm h'] at k'; cases k'

section
variable (ok : List Int → Int → Bool) (N : Nat)

/-- What can stand behind a list, of the last k numbers below N. -/
def Ex : Nat → List Int → List Int → Prop
  | 0, _, t => t = []
  | k + 1, s, t => Ex k s t ∨ ∃ t', t = ((N - (k + 1) : Nat) : Int) :: t' ∧ ok s ((N - (k + 1) : Nat) : Int) = true ∧ Ex k (s ++ [((N - (k + 1) : Nat) : Int)]) t'
/-- The greatest list so far, or a longer one. -/
def upd (L s : List Int) : List Int := if L.length < s.length then s else L
/-- The search. -/
def grow : Nat → List Int → List Int → List Int
  | 0, _, L => L
  | k + 1, s, L => grow k s (if ok s ((N - (k + 1) : Nat) : Int) then grow k (s ++ [((N - (k + 1) : Nat) : Int)]) (upd L (s ++ [((N - (k + 1) : Nat) : Int)])) else L)

variable {ok N}
theorem Ex.nil : ∀ (k : Nat) (s : List Int), Ex ok N k s [] := by
  intro k
  induction k with
  | zero => intro s; rfl
  | succ k ih => intro s; exact .inl (ih s)
theorem Ex.head : ∀ {k : Nat} {s : List Int} {x : Int} {t : List Int}, Ex ok N k s (x :: t) → ((N - k : Nat) : Int) ≤ x := by
  intro k
  induction k with
  | zero => intro s x t h; cases h
  | succ k ih =>
    intro s x t h
    rcases h with h | ⟨t', h, _⟩
    · have := ih h; omega
    · cases h; exact Int.le_refl _

/-- What the search finds. -/
def Fd (E : List Int → Prop) (s L L' : List Int) : Prop :=
  (L' = L ∧ ∀ t, t ≠ [] → E t → (s ++ t).length ≤ L.length) ∨ (∃ t, t ≠ [] ∧ E t ∧ L' = s ++ t ∧ L.length < L'.length ∧ ∀ t', t' ≠ [] → E t' → Bt L' (s ++ t'))

theorem grow_spec : ∀ (k : Nat) (s L : List Int), k ≤ N → Fd (Ex ok N k s) s L (grow ok N k s L) := by
  intro k
  induction k with
  | zero => intro s L _; exact .inl ⟨rfl, fun t ht h => absurd h ht⟩
  | succ k ih =>
    intro s L hk
    simp only [grow]
    generalize hv : ((N - (k + 1) : Nat) : Int) = v
    by_cases hok : ok s v = true
    · rw [if_pos hok]
      -- the first part
      have h1 : ∃ L1, grow ok N k (s ++ [v]) (upd L (s ++ [v])) = L1 ∧ ((L1 = L ∧ ∀ t, Ex ok N k (s ++ [v]) t → (s ++ v :: t).length ≤ L.length) ∨
          (∃ t1, Ex ok N k (s ++ [v]) t1 ∧ L1 = s ++ v :: t1 ∧ L.length < L1.length ∧ ∀ t, Ex ok N k (s ++ [v]) t → Bt L1 (s ++ v :: t))) := by
        refine ⟨_, rfl, ?_⟩
        have app : ∀ t, s ++ v :: t = (s ++ [v]) ++ t := fun t => by simp
        have hih := ih (s ++ [v]) (upd L (s ++ [v])) (by omega)
        by_cases hu : L.length < (s ++ [v]).length
        · have e0 : upd L (s ++ [v]) = s ++ [v] := if_pos hu
          rw [e0] at hih ⊢
          rcases hih with ⟨e1, h2⟩ | ⟨t, ht, hE, e1, hlt, hb⟩
          · refine .inr ⟨[], .nil _ _, by rw [e1], by rw [e1]; exact hu, fun t' hE' => ?_⟩
            rw [e1, app t']
            by_cases ht' : t' = []
            · subst ht'; rw [List.append_nil]; exact .refl _
            · have := h2 t' ht' hE'
              have hpos : 0 < t'.length := List.length_pos_iff.2 ht'
              have e9 : ((s ++ [v]) ++ t').length = (s ++ [v]).length + t'.length := List.length_append
              omega
          · refine .inr ⟨t, hE, by rw [e1, app t], by omega, fun t' hE' => ?_⟩
            rw [app t']
            by_cases ht' : t' = []
            · subst ht'; rw [List.append_nil]; exact .inl hlt
            · exact hb t' ht' hE'
        · have e0 : upd L (s ++ [v]) = L := if_neg hu
          rw [e0] at hih ⊢
          rcases hih with ⟨e1, h2⟩ | ⟨t, ht, hE, e1, hlt, hb⟩
          · refine .inl ⟨e1, fun t' hE' => ?_⟩
            rw [app t']
            by_cases ht' : t' = []
            · subst ht'; rw [List.append_nil]; omega
            · exact h2 t' ht' hE'
          · refine .inr ⟨t, hE, by rw [e1, app t], hlt, fun t' hE' => ?_⟩
            rw [app t']
            by_cases ht' : t' = []
            · subst ht'; rw [List.append_nil]; exact .inl (by omega)
            · exact hb t' ht' hE'
      obtain ⟨L1, e1, h1⟩ := h1
      rw [e1]
      have hll : L.length ≤ L1.length ∧ ∀ t, Ex ok N k (s ++ [v]) t → (s ++ v :: t).length ≤ L1.length := by
        rcases h1 with ⟨rfl, h⟩ | ⟨t1, _, _, hlt, hb⟩
        · exact ⟨Nat.le_refl _, h⟩
        · refine ⟨by omega, fun t ht => ?_⟩
          rcases hb t ht with h | ⟨h, _⟩ <;> omega
      rcases ih s L1 (by omega) with ⟨e2, h2⟩ | ⟨t2, ht2, hE2, e2, hlt2, hb2⟩
      · rw [e2]
        rcases h1 with ⟨rfl, h⟩ | ⟨t1, hE1, e3, hlt, hb⟩
        · refine .inl ⟨rfl, fun t ht hE => ?_⟩
          rcases hE with hE | ⟨t', rfl, _, hE⟩
          · exact h2 t ht hE
          · rw [hv] at hE ⊢; exact h t' hE
        · refine .inr ⟨v :: t1, by simp, .inr ⟨t1, by rw [hv], by rw [hv]; exact hok, by rw [hv]; exact hE1⟩, e3, hlt, fun t ht hE => ?_⟩
          rcases hE with hE | ⟨t', rfl, _, hE⟩
          · have := h2 t ht hE
            rcases Nat.lt_or_ge (s ++ t).length L1.length with hh | hh
            · exact .inl hh
            · refine .inr ⟨by omega, .inr ?_⟩
              rw [e3, bef_app]
              cases t with
              | nil => exact absurd rfl ht
              | cons w t =>
                have := hE.head
                have hvw : v < w := by omega
                simp only [bef]
                rw [if_neg (by omega)]
                simpa using hvw
          · rw [hv] at hE ⊢; exact hb t' hE
      · rw [e2]
        refine .inr ⟨t2, ht2, .inl hE2, rfl, by rw [e2] at hlt2; omega, fun t ht hE => ?_⟩
        rcases hE with hE | ⟨t', rfl, _, hE⟩
        · rw [← e2]; exact hb2 t ht hE
        · rw [hv] at hE ⊢
          have := hll.2 t' hE
          rw [e2] at hlt2
          exact .inl (by omega)
    · rw [if_neg hok]
      have hE : ∀ t, Ex ok N (k + 1) s t ↔ Ex ok N k s t := fun t => by
        refine ⟨fun h => ?_, fun h => .inl h⟩
        rcases h with h | ⟨t', _, h, _⟩
        · exact h
        · rw [hv] at h; exact absurd h hok
      rcases ih s L (by omega) with ⟨e2, h2⟩ | ⟨t2, ht2, hE2, e2, hlt2, hb2⟩
      · exact .inl ⟨e2, fun t ht h => h2 t ht ((hE t).1 h)⟩
      · exact .inr ⟨t2, ht2, (hE t2).2 hE2, e2, hlt2, fun t ht h => hb2 t ht ((hE t).1 h)⟩

/-- The best of all. -/
def Best (ok : List Int → Int → Bool) (N : Nat) (m : List Int) : Prop := Ex ok N N [] m ∧ ∀ t, Ex ok N N [] t → Bt m t
theorem Best.uniq {m m' : List Int} (h : Best ok N m) (k : Best ok N m') : m = m' := Bt.anti (h.2 m' k.1) (k.2 m h.1)
theorem grow_best : Best ok N (grow ok N N [] []) := by
  rcases grow_spec (ok := ok) N [] [] (Nat.le_refl N) with ⟨e, h⟩ | ⟨t, ht, hE, e, hlt, hb⟩
  · rw [e]
    refine ⟨.nil _ _, fun t hE => ?_⟩
    by_cases ht : t = []
    · subst ht; exact .refl _
    · have := h t ht hE
      have hpos : 0 < t.length := List.length_pos_iff.2 ht
      simp at this
      exact absurd this ht
  · simp only [List.nil_append] at e hb
    rw [e] at hlt hb ⊢
    refine ⟨hE, fun t' hE' => ?_⟩
    by_cases ht' : t' = []
    · subst ht'; exact .inl hlt
    · exact hb t' ht' hE'

/-! ### The other way: all sets -/
/-- The bits of a number from N - k on. -/
def bitsF (N M : Nat) : Nat → List Int
  | 0 => []
  | k + 1 => if M.testBit (N - (k + 1)) then ((N - (k + 1) : Nat) : Int) :: bitsF N M k else bitsF N M k
def okAll (ok : List Int → Int → Bool) : List Int → List Int → Bool
  | _, [] => true
  | s, v :: t => ok s v && okAll ok (s ++ [v]) t
/-- The bits of a number below i, and whether they are a clique. -/
def pre (M : Nat) : Nat → List Int
  | 0 => []
  | i + 1 => if M.testBit i then pre M i ++ [(i : Int)] else pre M i
def allTo (ok : List Int → Int → Bool) (M : Nat) : Nat → Bool
  | 0 => true
  | i + 1 => if M.testBit i then allTo ok M i && ok (pre M i) i else allTo ok M i
theorem pre_bits (M : Nat) : ∀ (k : Nat), k ≤ N → pre M (N - k) ++ bitsF N M k = pre M N := by
  intro k
  induction k with
  | zero => intro _; simp [bitsF]
  | succ k ih =>
    intro hk
    have := ih (by omega)
    rw [show N - k = (N - (k + 1)) + 1 by omega] at this
    simp only [bitsF, pre] at *
    split
    · rename_i h; rw [if_pos h] at this; simpa using this
    · rename_i h; rw [if_neg h] at this; exact this
theorem pre_all (M : Nat) : bitsF N M N = pre M N := by simpa [pre] using pre_bits (N := N) M N (Nat.le_refl N)
theorem allTo_bits (M : Nat) : ∀ (k : Nat), k ≤ N → (allTo ok M (N - k) && okAll ok (pre M (N - k)) (bitsF N M k)) = allTo ok M N := by
  intro k
  induction k with
  | zero => intro _; simp [bitsF, okAll]
  | succ k ih =>
    intro hk
    have := ih (by omega)
    rw [show N - k = (N - (k + 1)) + 1 by omega] at this
    simp only [bitsF, pre, allTo] at *
    split
    · rename_i h
      rw [if_pos h, if_pos h] at this
      simp only [okAll]
      rw [← Bool.and_assoc]; exact this
    · rename_i h; rw [if_neg h, if_neg h] at this; exact this
theorem allTo_okAll (M : Nat) : allTo ok M N = okAll ok [] (bitsF N M N) := by
  have := allTo_bits (ok := ok) (N := N) M N (Nat.le_refl N)
  simpa [pre, allTo] using this.symm
theorem allTo_false {M i : Nat} (h : allTo ok M i = false) : ∀ {j : Nat}, i ≤ j → allTo ok M j = false := by
  intro j
  induction j with
  | zero => intro hj; have : i = 0 := by omega
            subst this; exact h
  | succ j ih =>
    intro hj
    rcases Nat.lt_or_ge i (j + 1) with hlt | hge
    · have := ih (by omega)
      simp only [allTo]; split <;> simp [this]
    · have : i = j + 1 := by omega
      subst this; exact h
theorem pre_len (M : Nat) : ∀ i, (pre M i).length ≤ i := by
  intro i
  induction i with
  | zero => simp [pre]
  | succ i ih =>
    simp only [pre]
    split
    · simp only [List.length_append, List.length_cons, List.length_nil]; omega
    · omega
theorem pre_lt {M : Nat} : ∀ {i : Nat} {x : Int}, x ∈ pre M i → 0 ≤ x ∧ x < i := by
  intro i
  induction i with
  | zero => intro x hx; cases hx
  | succ i ih =>
    intro x hx
    simp only [pre] at hx
    split at hx
    · rcases List.mem_append.1 hx with hx | hx
      · have := ih hx; omega
      · simp only [List.mem_singleton] at hx; omega
    · have := ih hx; omega
theorem ex_bits (M : Nat) : ∀ (k : Nat) (s : List Int), okAll ok s (bitsF N M k) = true → Ex ok N k s (bitsF N M k) := by
  intro k
  induction k with
  | zero => intro s _; rfl
  | succ k ih =>
    intro s h
    simp only [bitsF] at *
    split
    · rename_i hb
      rw [if_pos hb] at h
      simp only [okAll, Bool.and_eq_true] at h
      exact .inr ⟨_, rfl, h.1, ih _ h.2⟩
    · rename_i hb
      rw [if_neg hb] at h
      exact .inl (ih _ h)
theorem bitsF_congr {M M' : Nat} : ∀ (k : Nat), k ≤ N → (∀ j, N - k ≤ j → j < N → M.testBit j = M'.testBit j) → bitsF N M k = bitsF N M' k := by
  intro k
  induction k with
  | zero => intro _ _; rfl
  | succ k ih =>
    intro hk h
    simp only [bitsF]
    rw [ih (by omega) (fun j h1 h2 => h j (by omega) h2), h (N - (k + 1)) (by omega) (by omega)]
theorem bits_ex : ∀ (k : Nat), k ≤ N → ∀ (s t : List Int), Ex ok N k s t → ∃ M, M < 2 ^ N ∧ (∀ j, j < N - k → M.testBit j = false) ∧ bitsF N M k = t ∧ okAll ok s t = true := by
  intro k
  induction k with
  | zero =>
    intro _ s t h
    exact ⟨0, Nat.pow_pos (by decide), fun j _ => by simp, by rw [h]; rfl, by rw [h]; rfl⟩
  | succ k ih =>
    intro hk s t h
    rcases h with h | ⟨t', rfl, hok, h⟩
    · obtain ⟨M, h1, h2, h3, h4⟩ := ih (by omega) s t h
      refine ⟨M, h1, fun j hj => h2 j (by omega), ?_, h4⟩
      simp only [bitsF]
      rw [h2 (N - (k + 1)) (by omega)]
      exact h3
    · obtain ⟨M, h1, h2, h3, h4⟩ := ih (by omega) _ t' h
      refine ⟨M ||| 2 ^ (N - (k + 1)), Nat.or_lt_two_pow h1 (Nat.pow_lt_pow_right (by decide) (by omega)), fun j hj => ?_, ?_, ?_⟩
      · rw [Nat.testBit_or, h2 j (by omega), Nat.testBit_two_pow]; simp; omega
      · simp only [bitsF]
        rw [Nat.testBit_or, Nat.testBit_two_pow]
        simp only [decide_true, Bool.or_true, if_true]
        rw [bitsF_congr (M := M ||| 2 ^ (N - (k + 1))) (M' := M) k (by omega) (fun j h1 h2 => by rw [Nat.testBit_or, Nat.testBit_two_pow]; simp; omega), h3]
      · simp only [okAll, hok, h4, Bool.and_self]

/-- The best of the first sets. -/
def refB (ok : List Int → Int → Bool) (N : Nat) : Nat → List Int
  | 0 => []
  | M + 1 => if allTo ok M N && (decide ((refB ok N M).length < (pre M N).length) || (decide ((pre M N).length = (refB ok N M).length) && bef (pre M N) (refB ok N M))) then pre M N else refB ok N M
theorem refB_spec : ∀ (K : Nat), Ex ok N N [] (refB ok N K) ∧ ∀ M, M < K → allTo ok M N = true → Bt (refB ok N K) (pre M N) := by
  intro K
  induction K with
  | zero => exact ⟨.nil _ _, fun M hM => absurd hM (by omega)⟩
  | succ K ih =>
    simp only [refB]
    by_cases hc : (allTo ok K N && (decide ((refB ok N K).length < (pre K N).length) || (decide ((pre K N).length = (refB ok N K).length) && bef (pre K N) (refB ok N K)))) = true
    · rw [if_pos hc]
      simp only [Bool.and_eq_true, Bool.or_eq_true, decide_eq_true_eq] at hc
      have hb : Bt (pre K N) (refB ok N K) := by
        rcases hc.2 with h | ⟨h, h'⟩
        · exact .inl h
        · exact .inr ⟨h, .inr h'⟩
      refine ⟨?_, fun M hM hall => ?_⟩
      · rw [← pre_all]
        refine ex_bits K N [] ?_
        rw [← allTo_okAll]; exact hc.1
      · rcases Nat.lt_succ_iff_lt_or_eq.1 hM with h | rfl
        · exact hb.trans (ih.2 M h hall)
        · exact .refl _
    · rw [if_neg hc]
      refine ⟨ih.1, fun M hM hall => ?_⟩
      rcases Nat.lt_succ_iff_lt_or_eq.1 hM with h | rfl
      · exact ih.2 M h hall
      · simp only [hall, Bool.true_and, Bool.or_eq_true, Bool.and_eq_true, decide_eq_true_eq, not_or, not_and] at hc
        rcases Nat.lt_or_ge (pre M N).length (refB ok N M).length with h | h
        · exact .inl h
        · have hl : (pre M N).length = (refB ok N M).length := by omega
          by_cases he : refB ok N M = pre M N
          · rw [he]; exact .refl _
          · rcases bef_total hl.symm he with h1 | h1
            · exact .inr ⟨hl.symm, .inr h1⟩
            · exact absurd h1 (hc.2 hl)
theorem refB_best : Best ok N (refB ok N (2 ^ N)) := by
  obtain ⟨h1, h2⟩ := refB_spec (ok := ok) (N := N) (2 ^ N)
  refine ⟨h1, fun t ht => ?_⟩
  obtain ⟨M, a1, _, a3, a4⟩ := bits_ex N (Nat.le_refl N) [] t ht
  have := h2 M a1 (by rw [allTo_okAll, a3]; exact a4)
  rw [← pre_all, a3] at this
  exact this
/-- Both ways find the same. -/
theorem grow_refB : grow ok N N [] [] = refB ok N (2 ^ N) := grow_best.uniq refB_best
end
end Go.Abs
