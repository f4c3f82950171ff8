/- A list of pairs that grows in memory and may be written. No condition. -/
import Derived.Test.YtndcbompcnlhmaaA22
import Derived.Test.YtndcbompcnlhmaaA23
namespace Go.Abs
open Go
set_option linter.unusedSimpArgs false
set_option linter.unusedVariables false

/-- A list of pairs that grows and may be written. -/
def Gr2 (h0 : AH) (x : AV) (xs : List (Int × Int)) (h : AH) : Prop := h0.le h ∧ ((xs = [] ∧ x = .sl true 0 [] .full) ∨ (xs ≠ [] ∧ ∃ b q, x = .msl b 0 xs.length (some q) ∧ xs.length ≤ q ∧ h.blk b = some (prs xs ++ List.replicate ((q - xs.length) * 2) .undef) ∧ h0.blk b = none))
theorem Gr2.new (h : AH) : Gr2 h (.sl true 0 [] .full) [] h := ⟨AH.le.refl h, .inl ⟨rfl, rfl⟩⟩
theorem prs_snoc1 (P : List (Int × Int)) (x : Int × Int) : prs (P ++ [x]) = prs P ++ [.int .i64 x.1, .int .i64 x.2] := by rw [prs_append]; rfl
theorem Gr2.step {h0 h : AH} {x : AV} {xs : List (Int × Int)} (k : Gr2 h0 x xs h) (hl : xs.length ≤ 100000) {v : Int × Int} {KS : AV → AH → Prop} (hk : ∀ x' h', Gr2 h0 x' (xs ++ [v]) h' → KS x' h') :
    AiS h 2 16 x (.sl false 1 [.int .i64 v.1, .int .i64 v.2] .full) (c := ⟨KS⟩) := by
  rcases k with ⟨hle, ⟨rfl, rfl⟩ | ⟨hne, b, q, rfl, hq, hb, hn⟩⟩
  · rw [aiS_full, rg_sl]
    refine ⟨rfl, rfl, by omega, by omega, by omega, GrowG.mk fun b q hq hb => hk _ _ ⟨AH.le_put hle (AH.none_of_le hle hb), .inr ⟨by simp, b, q, rfl, hq, ?_, AH.none_of_le hle hb⟩⟩⟩
    rw [AH.blk_put]; rfl
  · rw [aiS_msl, rg_sl, hb, BlkG_some]
    have hlen : (prs xs ++ List.replicate ((q - xs.length) * 2) AV.undef).length = q * 2 := by rw [List.length_append, prs_len, List.length_replicate]; omega
    refine ⟨rfl, by omega, by omega, by rw [hlen]; omega, fun h1 => ⟨by rw [hlen]; omega, hk _ _ ⟨AH.le_put hle hn, .inr ⟨by simp, b, q, by simp, by simpa using h1, ?_, hn⟩⟩⟩, fun h1 => GrowG.mk fun b' q' hq' hb' => hk _ _ ⟨AH.le_put hle (AH.none_of_le hle hb'), .inr ⟨by simp, b', q', by simp, by simpa using hq', ?_, AH.none_of_le hle hb'⟩⟩⟩
    · rw [AH.blk_put]
      congr 1
      rw [Nat.zero_add, prs_snoc1, List.length_append, List.append_assoc]
      have e1 : (prs xs ++ List.replicate ((q - xs.length) * 2) AV.undef).take (xs.length * 2) = prs xs := by
        rw [List.take_append_of_le_length (by rw [prs_len]; exact Nat.le_refl _), List.take_of_length_le (by rw [prs_len]; exact Nat.le_refl _)]
      have e2 : (prs xs ++ List.replicate ((q - xs.length) * 2) AV.undef).drop (xs.length * 2 + 2) = List.replicate ((q - (xs.length + 1)) * 2) AV.undef := by
        rw [List.drop_append, List.drop_of_length_le (by rw [prs_len]; omega), prs_len, List.drop_replicate, List.nil_append]
        congr 1
        omega
      rw [spl_eq _ _ _ (by rw [hlen]; simp only [List.length_cons, List.length_nil]; omega), e1]
      simp only [List.length_cons, List.length_nil, Nat.zero_add, Nat.reduceAdd, e2]
      simp
    · rw [AH.blk_put]
      congr 1
      simp [prs]
      show List.take (xs.length * 2) (prs xs ++ _) = prs xs
      rw [List.take_append_of_le_length (by rw [prs_len]; exact Nat.le_refl _), List.take_of_length_le (by rw [prs_len]; exact Nat.le_refl _)]

/-- The first m pairs, without those that equal the one before. -/
def ddP (xs : List (Int × Int)) : Nat → List (Int × Int)
  | 0 => []
  | m + 1 => if 0 < m ∧ xs.getD m (0, 0) = xs.getD (m - 1) (0, 0) then ddP xs m else ddP xs m ++ [xs.getD m (0, 0)]
theorem ddP_len (xs : List (Int × Int)) : ∀ m, (ddP xs m).length ≤ m := by
  intro m
  induction m with
  | zero => simp [ddP]
  | succ m ih =>
    unfold ddP
    split
    · omega
    · simp only [List.length_append, List.length_singleton]; omega
theorem ddP_mem (xs : List (Int × Int)) : ∀ m x, x ∈ ddP xs m ↔ ∃ j, j < m ∧ xs.getD j (0, 0) = x := by
  intro m
  induction m with
  | zero => intro x; simp [ddP]
  | succ m ih =>
    intro x
    unfold ddP
    split
    · rename_i hc
      rw [ih]
      constructor
      · rintro ⟨j, h1, h2⟩; exact ⟨j, by omega, h2⟩
      · rintro ⟨j, h1, h2⟩
        rcases Nat.lt_succ_iff_lt_or_eq.1 h1 with h1 | rfl
        · exact ⟨j, h1, h2⟩
        · exact ⟨j - 1, by omega, by rw [← hc.2, h2]⟩
    · rw [List.mem_append, ih, List.mem_singleton]
      constructor
      · rintro (⟨j, h1, h2⟩ | rfl)
        · exact ⟨j, by omega, h2⟩
        · exact ⟨m, by omega, rfl⟩
      · rintro ⟨j, h1, h2⟩
        rcases Nat.lt_succ_iff_lt_or_eq.1 h1 with h1 | rfl
        · exact .inl ⟨j, h1, h2⟩
        · exact .inr h2.symm
/-- The order of pairs. -/
def Lx (p q : Int × Int) : Prop := p.1 < q.1 ∨ p.1 = q.1 ∧ p.2 < q.2
theorem Lx.irr {p : Int × Int} : ¬ Lx p p := by unfold Lx; omega
theorem Lx.trans {p q r : Int × Int} (h1 : Lx p q) (h2 : Lx q r) : Lx p r := by unfold Lx at *; omega
/-- Of pairs in order, they ascend strictly. -/
theorem ddP_asc {xs : List (Int × Int)} (hs : ∀ i j, i ≤ j → j < xs.length → ¬ Lx (xs.getD j (0, 0)) (xs.getD i (0, 0))) : ∀ m, m ≤ xs.length → (ddP xs m).Pairwise Lx := by
  intro m
  induction m with
  | zero => intro _; exact .nil
  | succ m ih =>
    intro hm
    unfold ddP
    split
    · exact ih (by omega)
    · rename_i hc
      refine List.pairwise_append.2 ⟨ih (by omega), List.pairwise_singleton _ _, fun a ha b hb => ?_⟩
      obtain ⟨j, h1, rfl⟩ := (ddP_mem xs m a).1 ha
      simp at hb
      subst hb
      have e1 := hs j (m - 1) (by omega) (by omega)
      have e2 := hs (m - 1) m (by omega) (by omega)
      have e3 : xs.getD m (0, 0) ≠ xs.getD (m - 1) (0, 0) := fun hh => hc ⟨by omega, hh⟩
      have e4 := fun hh1 hh2 => e3 (Prod.ext hh1 hh2)
      simp only [← List.getD_eq_getElem?_getD] at *
      generalize xs.getD m (0, 0) = pm at *
      generalize xs.getD (m - 1) (0, 0) = pn at *
      generalize xs.getD j (0, 0) = pj at *
      unfold Lx at *
      by_cases h5 : pm.1 = pn.1
      · have e5 : pm.2 ≠ pn.2 := e4 h5
        omega
      · omega
theorem pasc_ext : ∀ {a b : List (Int × Int)}, a.Pairwise Lx → b.Pairwise Lx → (∀ x, x ∈ a ↔ x ∈ b) → a = b := by
  intro a
  induction a with
  | nil =>
    intro b _ _ h
    cases b with
    | nil => rfl
    | cons y b => have := (h y).2 (by simp); simp at this
  | cons x a ih =>
    intro b ha hb h
    cases b with
    | nil => have := (h x).1 (by simp); simp at this
    | cons y b =>
      obtain ⟨ha1, ha2⟩ := List.pairwise_cons.1 ha
      obtain ⟨hb1, hb2⟩ := List.pairwise_cons.1 hb
      have hxy : x = y := by
        have h1 := (h x).1 (by simp)
        have h2 := (h y).2 (by simp)
        rcases List.mem_cons.1 h1 with h1 | h1
        · exact h1
        · rcases List.mem_cons.1 h2 with h2 | h2
          · exact h2.symm
          · exact absurd ((hb1 x h1).trans (ha1 y h2)) Lx.irr
      subst hxy
      congr 1
      refine ih ha2 hb2 fun z => ?_
      constructor
      · intro hz
        rcases List.mem_cons.1 ((h z).1 (by simp [hz])) with hh | hh
        · subst hh; exact absurd (ha1 z hz) Lx.irr
        · exact hh
      · intro hz
        rcases List.mem_cons.1 ((h z).2 (by simp [hz])) with hh | hh
        · subst hh; exact absurd (hb1 z hz) Lx.irr
        · exact hh
theorem ddP_full {xs : List (Int × Int)} (h : ∀ j, 0 < j → j < xs.length → xs.getD j (0, 0) ≠ xs.getD (j - 1) (0, 0)) : ∀ m, m ≤ xs.length → ddP xs m = xs.take m := by
  intro m
  induction m with
  | zero => intro _; rfl
  | succ m ih =>
    intro hm
    rw [ddP, if_neg (fun hh => h m hh.1 (by omega) hh.2), ih (by omega), take_getD (0, 0) (by omega)]
end Go.Abs
namespace Go.Abs
open Go
set_option linter.unusedSimpArgs false
set_option linter.unusedVariables false

/-- A queue beside the block b5. -/
def Qv (h0 : AH) (b5 : Nat) (x : AV) (qs : List Int) (H : AH) : Prop := h0.le H ∧ H.blk b5 ≠ none ∧ ((∃ u, qs = [u] ∧ x = .sl false 1 [.int .i64 u] .full) ∨ (qs = [] ∧ ∃ nl tl, x = .sl nl 0 [] tl) ∨ ∃ b q off pre rest, b ≠ b5 ∧ off = pre.length ∧ x = .msl b off qs.length (some q) ∧ H.blk b = some (pre ++ (i64s qs ++ rest)) ∧ rest.length + qs.length = q ∧ h0.blk b = none)
section
variable {h0 H : AH} {b5 : Nat} {x : AV} {qs : List Int} {K : AV → Prop}
theorem qv_len (k : Qv h0 b5 x qs H) : LnA x (c := ⟨K⟩) = K (.int .i64 qs.length) := by
  obtain ⟨_, _, ⟨u, rfl, rfl⟩ | ⟨rfl, nl, tl, rfl⟩ | ⟨b, q, off, pre, rest, _, _, rfl, _⟩⟩ := k <;> rfl
theorem qv_ix (k : Qv h0 b5 x qs H) {kd : IntKind} {j : Int} : IxA 1 x (.int kd j) (c := ⟨K⟩) = (0 ≤ j ∧ j < qs.length ∧ K (adr x j.toNat)) := by
  obtain ⟨_, _, ⟨u, rfl, rfl⟩ | ⟨rfl, nl, tl, rfl⟩ | ⟨b, q, off, pre, rest, _, _, rfl, _⟩⟩ := k
  · simp only [IxA, adr, Nat.mul_one]; rfl
  · simp only [IxA, adr, Nat.mul_one]; rfl
  · simp only [IxA, adr, Nat.mul_one]
theorem qv_ld (k : Qv h0 b5 x qs H) {j : Nat} (hj : j < qs.length) : LdA H none (adr x j) (c := ⟨K⟩) = K (.int .i64 (qs.getD j 0)) := by
  obtain ⟨_, _, ⟨u, rfl, rfl⟩ | ⟨rfl, nl, tl, rfl⟩ | ⟨b, q, off, pre, rest, _, rfl, rfl, hb, _⟩⟩ := k
  · have : j = 0 := by simp at hj; exact hj
    subst this
    simp only [adr, LdA, List.drop_zero]
    simp [evLoad, AV.one]
  · simp at hj
  · have hd : (pre ++ (i64s qs ++ rest)).drop (pre.length + j) = .int .i64 (qs.getD j 0) :: ((i64s qs).drop (j + 1) ++ rest) := by
      rw [List.drop_append, List.drop_of_length_le (by omega), List.nil_append, show pre.length + j - pre.length = j by omega, List.drop_append_of_le_length (by rw [i64s_len]; omega), i64s_drop hj]; rfl
    simp only [adr, LdA, hb, hd, Option.some.injEq, exists_eq_left']
    simp [evLoad, AV.one]
theorem Qv.put5 (k : Qv h0 b5 x qs H) (h5 : h0.blk b5 = none) (cs : List AV) : Qv h0 b5 x qs (H.put b5 cs) := by
  obtain ⟨hle, _, k⟩ := k
  refine ⟨AH.le_put hle h5, by rw [AH.blk_put]; simp, ?_⟩
  rcases k with k | k | ⟨b, q, off, pre, rest, hne, e1, e2, hb, e3, e4⟩
  · exact .inl k
  · exact .inr (.inl k)
  · exact .inr (.inr ⟨b, q, off, pre, rest, hne, e1, e2, by rw [AH.blk_put_ne _ _ hne]; exact hb, e3, e4⟩)
theorem Qv.step (k : Qv h0 b5 x qs H) (hq : qs ≠ []) (hl : qs.length ≤ 1000) {v : Int} {KS : AV → AH → Prop} (hk : ∀ x' H', Qv h0 b5 x' (qs ++ [v]) H' → H'.blk b5 = H.blk b5 → KS x' H') :
    AiS H 1 8 x (.sl false 1 [.int .i64 v] .full) (c := ⟨KS⟩) := by
  obtain ⟨hle, h5, ⟨u, rfl, rfl⟩ | ⟨rfl, _⟩ | ⟨b, q, off, pre, rest, hne, rfl, rfl, hb, e3, e4⟩⟩ := k
  · rw [aiS_full, rg_sl]
    refine ⟨rfl, rfl, by omega, by omega, by omega, GrowG.mk fun b q hq hb => ?_⟩
    have hne : b ≠ b5 := fun hh => h5 (by rw [← hh]; exact hb)
    refine hk _ _ ⟨AH.le_put hle (AH.none_of_le hle hb), by rw [AH.blk_put_ne _ _ (fun hh => hne hh.symm)]; exact h5, .inr (.inr ⟨b, q, 0, [], List.replicate (q - (1 + 1)) .undef, hne, rfl, rfl, ?_, ?_, AH.none_of_le hle hb⟩)⟩ ?_
    · rw [AH.blk_put]; simp [i64s]
    · simp; omega
    · exact AH.blk_put_ne _ _ (fun hh => hne hh.symm)
  · exact absurd rfl hq
  · rw [aiS_msl, rg_sl, hb, BlkG_some]
    have hlen : (pre ++ (i64s qs ++ rest)).length = pre.length + q := by simp only [List.length_append, i64s_len]; omega
    refine ⟨rfl, by omega, by omega, by rw [hlen]; omega, fun h1 => ⟨by rw [hlen]; omega, ?_⟩, fun h1 => GrowG.mk fun b' q' hq' hb' => ?_⟩
    · obtain ⟨r, rest', hr⟩ : ∃ r rest', rest = r :: rest' := by
        cases rest with
        | nil => simp at e3; omega
        | cons r rest' => exact ⟨r, rest', rfl⟩
      subst hr
      have e0 : spl (pre ++ (i64s qs ++ r :: rest')) (pre.length + qs.length * 1) [.int .i64 v] = pre ++ (i64s (qs ++ [v]) ++ rest') := by
        rw [spl_eq _ _ _ (by rw [hlen]; simp only [List.length_singleton]; omega)]
        have t1 : (pre ++ (i64s qs ++ r :: rest')).take (pre.length + qs.length * 1) = pre ++ i64s qs := by
          rw [← List.append_assoc, List.take_append_of_le_length (by simp [i64s_len]), List.take_of_length_le (by simp [i64s_len])]
        have t2 : (pre ++ (i64s qs ++ r :: rest')).drop (pre.length + qs.length * 1 + 1) = rest' := by
          rw [← List.append_assoc, List.drop_append, List.drop_of_length_le (by simp [i64s_len])]
          simp [i64s_len]
        simp only [List.length_singleton, t1, t2, i64s_append]
        simp [i64s]
      rw [e0]
      refine hk _ _ ⟨AH.le_put hle e4, by rw [AH.blk_put_ne _ _ (fun hh => hne hh.symm)]; exact h5, .inr (.inr ⟨b, q, pre.length, pre, rest', hne, rfl, by simp, AH.blk_put _ _ _, by simp at e3 ⊢; omega, e4⟩)⟩ (AH.blk_put_ne _ _ (fun hh => hne hh.symm))
    · have hne' : b' ≠ b5 := fun hh => h5 (by rw [← hh]; exact hb')
      have t1 : ((pre ++ (i64s qs ++ rest)).drop pre.length).take (qs.length * 1) = i64s qs := by
        rw [List.drop_append, List.drop_of_length_le (by omega), List.nil_append, Nat.sub_self, List.drop_zero, Nat.mul_one, List.take_append_of_le_length (by rw [i64s_len]; exact Nat.le_refl _), List.take_of_length_le (by rw [i64s_len]; exact Nat.le_refl _)]
      rw [t1]
      refine hk _ _ ⟨AH.le_put hle (AH.none_of_le hle hb'), by rw [AH.blk_put_ne _ _ (fun hh => hne' hh.symm)]; exact h5, .inr (.inr ⟨b', q', 0, [], List.replicate (q' - (qs.length + 1)) .undef, hne', rfl, by simp, ?_, ?_, AH.none_of_le hle hb'⟩)⟩ (AH.blk_put_ne _ _ (fun hh => hne' hh.symm))
      · rw [AH.blk_put]; simp [i64s]
      · simp; omega
/-- The head is cut off. -/
theorem Qv.pop {u : Int} (k : Qv h0 b5 x (u :: qs) H) : (x = .sl false 1 [.int .i64 u] .full ∧ qs = []) ∨ ∃ b q off, x = .msl b off (u :: qs).length (some q) ∧ (u :: qs).length ≤ q ∧ (1 < q → Qv h0 b5 (.msl b (off + 1) qs.length (some (q - 1))) qs H) ∧ (¬ 1 < q → qs = []) := by
  obtain ⟨hle, h5, ⟨v, e1, e2⟩ | ⟨e1, _⟩ | ⟨b, q, off, pre, rest, hne, rfl, rfl, hb, e3, e4⟩⟩ := k
  · injection e1 with e1 e1'
    subst e1
    exact .inl ⟨e2, e1'⟩
  · cases e1
  · refine .inr ⟨b, q, pre.length, rfl, by omega, fun h1 => ⟨hle, h5, .inr (.inr ⟨b, q - 1, _, pre ++ [.int .i64 u], rest, hne, by simp, rfl, ?_, ?_, e4⟩)⟩, fun h1 => ?_⟩
    · rw [hb]; simp [i64s]
    · simp at e3; omega
    · simp at e3
      exact List.eq_nil_of_length_eq_zero (by omega)
end
end Go.Abs
