/- Numbers without repetitions, and lists in order with the same members. No condition. -/
import Derived.Test.YtnekkkjedmlloaaA23
import Derived.Test.YtnekkkjedmlloaaH10
import Derived.Test.YtnekkkjedmlloaaS2
import Derived.Test.YtnekkkjedmlloaaC4
import Derived.Test.YtnekkkjedmlloaaH11
import Derived.Test.YtnekkkjedmlloaaS3
namespace Go.Abs
open Go
set_option linter.unusedSimpArgs false
set_option linter.unusedVariables false

/-- The first m numbers, without those that equal the one before. -/
def ddN (xs : List Int) : Nat → List Int
  | 0 => []
  | m + 1 => if 0 < m ∧ xs.getD m 0 = xs.getD (m - 1) 0 then ddN xs m else ddN xs m ++ [xs.getD m 0]
theorem ddN_len (xs : List Int) : ∀ m, (ddN xs m).length ≤ m := by
  intro m
  induction m with
  | zero => simp [ddN]
  | succ m ih =>
    unfold ddN
    split
    · omega
    · simp only [List.length_append, List.length_singleton]; omega
theorem ddN_mem (xs : List Int) : ∀ m x, x ∈ ddN xs m ↔ ∃ j, j < m ∧ xs.getD j 0 = x := by
  intro m
  induction m with
  | zero => intro x; simp [ddN]
  | succ m ih =>
    intro x
    unfold ddN
    split
    · rename_i hc
      rw [ih]
      constructor
      · rintro ⟨j, h1, h2⟩; exact ⟨j, by omega, h2⟩
      · rintro ⟨j, h1, h2⟩
        rcases Nat.lt_succ_iff_lt_or_eq.1 h1 with h1 | rfl
        · exact ⟨j, h1, h2⟩
        · exact ⟨j - 1, by omega, by rw [← hc.2, h2]⟩
    · rw [List.mem_append, ih, List.mem_singleton]
      constructor
      · rintro (⟨j, h1, h2⟩ | rfl)
        · exact ⟨j, by omega, h2⟩
        · exact ⟨m, by omega, rfl⟩
      · rintro ⟨j, h1, h2⟩
        rcases Nat.lt_succ_iff_lt_or_eq.1 h1 with h1 | rfl
        · exact .inl ⟨j, h1, h2⟩
        · exact .inr h2.symm
/-- Of numbers in order, they ascend strictly. -/
theorem ddN_asc {xs : List Int} (hs : ∀ i j, i ≤ j → j < xs.length → xs.getD i 0 ≤ xs.getD j 0) : ∀ m, m ≤ xs.length → (ddN xs m).Pairwise (· < ·) := by
  intro m
  induction m with
  | zero => intro _; exact .nil
  | succ m ih =>
    intro hm
    unfold ddN
    split
    · exact ih (by omega)
    · rename_i hc
      refine List.pairwise_append.2 ⟨ih (by omega), List.pairwise_singleton _ _, fun a ha b hb => ?_⟩
      obtain ⟨j, h1, rfl⟩ := (ddN_mem xs m a).1 ha
      simp at hb
      subst hb
      have e1 := hs j (m - 1) (by omega) (by omega)
      have e2 := hs (m - 1) m (by omega) (by omega)
      have e3 : xs.getD m 0 ≠ xs.getD (m - 1) 0 := fun hh => hc ⟨by omega, hh⟩
      simp only [List.getD_eq_getElem?_getD] at *
      omega
theorem asc_ext : ∀ {a b : List Int}, a.Pairwise (· < ·) → b.Pairwise (· < ·) → (∀ x, x ∈ a ↔ x ∈ b) → a = b := by
  intro a
  induction a with
  | nil =>
    intro b _ _ h
    cases b with
    | nil => rfl
    | cons y b => have := (h y).2 (by simp); simp at this
  | cons x a ih =>
    intro b ha hb h
    cases b with
    | nil => have := (h x).1 (by simp); simp at this
    | cons y b =>
      obtain ⟨ha1, ha2⟩ := List.pairwise_cons.1 ha
      obtain ⟨hb1, hb2⟩ := List.pairwise_cons.1 hb
      have hxy : x = y := by
        have h1 := (h x).1 (by simp)
        have h2 := (h y).2 (by simp)
        rcases List.mem_cons.1 h1 with h1 | h1
        · exact h1
        · rcases List.mem_cons.1 h2 with h2 | h2
          · exact h2.symm
          · have := hb1 x h1
            have := ha1 y h2
            omega
      subst hxy
      congr 1
      refine ih ha2 hb2 fun z => ?_
      constructor
      · intro hz
        rcases List.mem_cons.1 ((h z).1 (by simp [hz])) with hh | hh
        · subst hh; have := ha1 z hz; omega
        · exact hh
      · intro hz
        rcases List.mem_cons.1 ((h z).2 (by simp [hz])) with hh | hh
        · subst hh; have := hb1 z hz; omega
        · exact hh
end Go.Abs
namespace Go.Proofs.Ytnekkkjedmlloaa
open Go Go.Abs
set_option linter.unusedSimpArgs false
set_option linter.unusedVariables false
set_option maxRecDepth 20000

theorem ddN_full {xs : List Int} (h : ∀ j, 0 < j → j < xs.length → xs.getD j 0 ≠ xs.getD (j - 1) 0) : ∀ m, m ≤ xs.length → ddN xs m = xs.take m := by
  intro m
  induction m with
  | zero => intro _; rfl
  | succ m ih =>
    intro hm
    rw [ddN, if_neg (fun hh => h m hh.1 (by omega) hh.2), ih (by omega), take_getD 0 (by omega)]

set_option maxHeartbeats 1000000 in
/-- The list is compacted in place; the rest is cleared. -/
theorem s_slices_Compact_int (xs : List Int) (hx : 1 ≤ xs.length) (hx2 : xs.length ≤ 100000) {q : Nat} (hq : xs.length ≤ q) {h : AH} {b : Nat} {rest : List AV} (hb : h.blk b = some (i64s xs ++ rest)) :
    ACalls Try.prog n_slices_Compact_intW [.msl b 0 xs.length (some q)] h fun r h' => r = .sl false (ddN xs xs.length).length (i64s (ddN xs xs.length)) .unk ∧ h' = h.del b := by
  refine ACalls.of hm cF_slices_Compact_intW (by simp [g_slices_Compact_intW]) fun hw => ?_
  have hfix : ∀ {H : AH} {cs : List AV} {n : Nat} {ys : List Int} {cap : Option Nat}, n = ys.length → cs.take n = i64s ys → ∃ r' h'', RGh (.msl b 0 n cap) (H.put b cs) r' h'' ∧ r' = .sl false ys.length (i64s ys) .unk ∧ h'' = (H.put b cs).del b := fun {H cs n ys cap} hn hc => by
    have := RGh.fix (n := n) (cap := cap) (AH.blk_put H b cs) 1
    rw [Nat.mul_one, hc] at this
    exact ⟨_, _, this, by rw [hn], rfl⟩
  by_cases h2 : xs.length < 2
  · have hc : (xs.length : Int) < 2 := by omega
    have h1 : xs.length = 1 := by omega
    have e1 : ddN xs xs.length = xs := by rw [ddN_full (fun j h0 hj => by omega) _ (Nat.le_refl _), List.take_length]
    simp only [hc, F_slices_Compact_intW, g_slices_Compact_intW, go_sem, reduceIte, Nat.reduceEqDiff, Nat.reduceAdd, Nat.reduceMul, Nat.reduceSub, reduceCtorEq, Nat.reduceLeDiff, Nat.reduceLT, Int.reduceLT, Int.reduceLE, Int.reduceToNat, Int.reduceAdd, Int.reduceSub, Int.reduceNeg, Int.reduceMul, Int.reduceEq, ← Bool.decide_and, ← Bool.decide_or, ↓tq_n, ↓tq_e, ↓tq_r, ↓bq_n, ↓bq_e, ↓bq_r, ↓rq_n, ↓rq_r, ↓rq_e]
    have := RGh.fix (n := xs.length) (cap := some q) hb 1
    rw [Nat.mul_one, List.take_append_of_le_length (by rw [i64s_len]; exact Nat.le_refl _), List.take_of_length_le (by rw [i64s_len]; exact Nat.le_refl _)] at this
    exact ⟨_, _, this, by rw [e1], rfl⟩
  have hc : ¬ (xs.length : Int) < 2 := by omega
  simp only [hc, F_slices_Compact_intW, g_slices_Compact_intW, go_sem, reduceIte, Nat.reduceEqDiff, Nat.reduceAdd, Nat.reduceMul, Nat.reduceSub, reduceCtorEq, Nat.reduceLeDiff, Nat.reduceLT, Int.reduceLT, Int.reduceLE, Int.reduceToNat, Int.reduceAdd, Int.reduceSub, Int.reduceNeg, Int.reduceMul, Int.reduceEq, ← Bool.decide_and, ← Bool.decide_or, ↓tq_n, ↓tq_e, ↓tq_r, ↓bq_n, ↓bq_e, ↓bq_r, ↓rq_n, ↓rq_r, ↓rq_e]
  have hdrop : ∀ j, j < xs.length → (i64s xs ++ rest).drop j = I (xs.getD j 0) :: ((i64s xs).drop (j + 1) ++ rest) := fun j hj => by
    rw [List.drop_append_of_le_length (by rw [i64s_len]; omega), i64s_drop hj]; rfl
  refine awp_loop (fun k : Nat => [(0, .msl b 0 xs.length (some q)), (3, I k)]) (fun _ => h) (fun k => 1 ≤ k ∧ k ≤ xs.length ∧ ∀ j, 0 < j → j < k → xs.getD j 0 ≠ xs.getD (j - 1) 0) (fun k => xs.length - k) 1 ⟨Nat.le_refl _, hx, fun j h0 hj => by omega⟩ (GStep.forget (by repeat' first | exact EnvLe.nil _ | refine EnvLe.cons (AV.le.of_eq rfl) ?_ | refine EnvLe.cons (AV.le.undef _) ?_ | refine EnvLe.cons AV.le.unk ?_) (by repeat' first | exact AH.le.refl _ | assumption | (refine AH.le_put ?_ (by first | assumption | exact (AH.blk_put_ne _ _ (by assumption)).trans (by assumption) | exact AH.none_put (by assumption) | exact AH.none_put (AH.none_put (by assumption)) | (simp only [AH.blk_setTok, AH.tok_put] at *; first | assumption | exact AH.none_put (by assumption)))) | (refine AH.le_setTok ?_ (by first | assumption | exact (AH.blk_put_ne _ _ (by assumption)).trans (by assumption) | exact AH.none_put (by assumption) | exact AH.none_put (AH.none_put (by assumption)) | (simp only [AH.blk_setTok, AH.tok_put] at *; first | assumption | exact AH.none_put (by assumption)))) | (refine AH.le_putM ?_ (by first | assumption | exact (AH.mp_putM_ne _ _ (by assumption)).trans (by assumption) | (simp only [AH.mp_put, AH.mp_setTok] at *; assumption))))) fun k hk => .of_vg hm ?_
  obtain ⟨k1, k2, k3⟩ := hk
  by_cases hkn : k < xs.length
  case neg =>
    have hkn : k = xs.length := by omega
    subst hkn
    have e1 : ddN xs xs.length = xs := by rw [ddN_full k3 _ (Nat.le_refl _), List.take_length]
    simp only [F_slices_Compact_intW, g_slices_Compact_intW, go_sem, reduceIte, Nat.reduceEqDiff, Nat.reduceAdd, Nat.reduceMul, Nat.reduceSub, reduceCtorEq, Nat.reduceLeDiff, Nat.reduceLT, Int.reduceLT, Int.reduceLE, Int.reduceToNat, Int.reduceAdd, Int.reduceSub, Int.reduceNeg, Int.reduceMul, Int.reduceEq, ← Bool.decide_and, ← Bool.decide_or, ↓tq_n, ↓tq_e, ↓tq_r, ↓bq_n, ↓bq_e, ↓bq_r, ↓rq_n, ↓rq_r, ↓rq_e]
    have := RGh.fix (n := xs.length) (cap := some q) hb 1
    rw [Nat.mul_one, List.take_append_of_le_length (by rw [i64s_len]; exact Nat.le_refl _), List.take_of_length_le (by rw [i64s_len]; exact Nat.le_refl _)] at this
    exact ⟨_, _, this, by rw [e1], rfl⟩
  have hkc : (k : Int) < (xs.length : Int) := by omega
  have hkm : (k : Int) - 1 = ((k - 1 : Nat) : Int) := by omega
  have hkr : InR .i64 ((k - 1 : Nat) : Int) := by rw [inR64]; omega
  have hkc1 : ((k - 1 : Nat) : Int) < (xs.length : Int) := by omega
  have hkq : k < q := by omega
  by_cases heq : xs.getD k 0 = xs.getD (k - 1) 0
  case neg =>
    simp only [hkc, hkm, hkr, hkc1, hb, hdrop k hkn, hdrop (k - 1) (by omega), Nat.mul_one, heq, F_slices_Compact_intW, g_slices_Compact_intW, go_sem, reduceIte, Nat.reduceEqDiff, Nat.reduceAdd, Nat.reduceMul, Nat.reduceSub, reduceCtorEq, Nat.reduceLeDiff, Nat.reduceLT, Int.reduceLT, Int.reduceLE, Int.reduceToNat, Int.reduceAdd, Int.reduceSub, Int.reduceNeg, Int.reduceMul, Int.reduceEq, ← Bool.decide_and, ← Bool.decide_or, ↓tq_n, ↓tq_e, ↓tq_r, ↓bq_n, ↓bq_e, ↓bq_r, ↓rq_n, ↓rq_r, ↓rq_e]
    refine ⟨by rw [inR64]; omega, k + 1, ⟨by omega, by omega, fun j h0 hj => ?_⟩, by omega, (GStep.forget (by repeat' first | exact EnvLe.nil _ | refine EnvLe.cons (AV.le.of_eq rfl) ?_ | refine EnvLe.cons (AV.le.undef _) ?_ | refine EnvLe.cons AV.le.unk ?_) (by repeat' first | exact AH.le.refl _ | assumption | (refine AH.le_put ?_ (by first | assumption | exact (AH.blk_put_ne _ _ (by assumption)).trans (by assumption) | exact AH.none_put (by assumption) | exact AH.none_put (AH.none_put (by assumption)) | (simp only [AH.blk_setTok, AH.tok_put] at *; first | assumption | exact AH.none_put (by assumption)))) | (refine AH.le_setTok ?_ (by first | assumption | exact (AH.blk_put_ne _ _ (by assumption)).trans (by assumption) | exact AH.none_put (by assumption) | exact AH.none_put (AH.none_put (by assumption)) | (simp only [AH.blk_setTok, AH.tok_put] at *; first | assumption | exact AH.none_put (by assumption)))) | (refine AH.le_putM ?_ (by first | assumption | exact (AH.mp_putM_ne _ _ (by assumption)).trans (by assumption) | (simp only [AH.mp_put, AH.mp_setTok] at *; assumption)))))⟩
    rcases lt_succ_cases hj with hj | rfl
    · exact k3 j h0 hj
    · exact heq
  have hpre : ∀ m, m ≤ k → ddN xs m = xs.take m := by
    intro m
    induction m with
    | zero => intro _; rfl
    | succ m ih =>
      intro hmk
      rw [ddN, if_neg (fun hh => k3 m hh.1 (by omega) hh.2), ih (by omega), take_getD 0 (by omega)]
  have hd1 : ddN xs (k + 1) = xs.take k := by rw [ddN, if_pos ⟨by omega, heq⟩, hpre k (Nat.le_refl _)]
  simp only [hkc, hkm, hkr, hkc1, hb, hdrop k hkn, hdrop (k - 1) (by omega), Nat.mul_one, heq, mslCut_lt hkq, F_slices_Compact_intW, g_slices_Compact_intW, go_sem, reduceIte, Nat.reduceEqDiff, Nat.reduceAdd, Nat.reduceMul, Nat.reduceSub, reduceCtorEq, Nat.reduceLeDiff, Nat.reduceLT, Int.reduceLT, Int.reduceLE, Int.reduceToNat, Int.reduceAdd, Int.reduceSub, Int.reduceNeg, Int.reduceMul, Int.reduceEq, ← Bool.decide_and, ← Bool.decide_or, ↓tq_n, ↓tq_e, ↓tq_r, ↓bq_n, ↓bq_e, ↓bq_r, ↓rq_n, ↓rq_r, ↓rq_e]
  refine ⟨by omega, by omega, ?_⟩
  refine awp_loop (α := Nat × Nat × List Int) (fun p => [(0, .msl b 0 xs.length (some q)), (3, I p.2.1), (4, .msl b k (xs.length - k) (some (q - k))), (5, I p.1)]) (fun p => h.put b (i64s p.2.2 ++ rest))
    (fun p => 1 ≤ p.1 ∧ p.1 ≤ xs.length - k ∧ p.2.2.length = xs.length ∧ (∀ j, k + p.1 - 1 ≤ j → j < xs.length → p.2.2.getD j 0 = xs.getD j 0) ∧ ddN xs (k + p.1) = p.2.2.take p.2.1 ∧ p.2.1 ≤ k + p.1 - 1) (fun p => xs.length - k - p.1) (1, k, xs) ⟨Nat.le_refl _, by omega, rfl, fun _ _ _ => rfl, hd1, (by show k ≤ k + 1 - 1; omega)⟩ ?_ fun p hp => .of_vg hm ?_
  · rw [AH.put_same hb]
    exact (GStep.forget (by repeat' first | exact EnvLe.nil _ | refine EnvLe.cons (AV.le.of_eq rfl) ?_ | refine EnvLe.cons (AV.le.undef _) ?_ | refine EnvLe.cons AV.le.unk ?_) (by repeat' first | exact AH.le.refl _ | assumption | (refine AH.le_put ?_ (by first | assumption | exact (AH.blk_put_ne _ _ (by assumption)).trans (by assumption) | exact AH.none_put (by assumption) | exact AH.none_put (AH.none_put (by assumption)) | (simp only [AH.blk_setTok, AH.tok_put] at *; first | assumption | exact AH.none_put (by assumption)))) | (refine AH.le_setTok ?_ (by first | assumption | exact (AH.blk_put_ne _ _ (by assumption)).trans (by assumption) | exact AH.none_put (by assumption) | exact AH.none_put (AH.none_put (by assumption)) | (simp only [AH.blk_setTok, AH.tok_put] at *; first | assumption | exact AH.none_put (by assumption)))) | (refine AH.le_putM ?_ (by first | assumption | exact (AH.mp_putM_ne _ _ (by assumption)).trans (by assumption) | (simp only [AH.mp_put, AH.mp_setTok] at *; assumption)))))
  obtain ⟨m, K, B⟩ := p
  obtain ⟨p1, p2, p3, p4, p5, p6⟩ := hp
  simp only at p1 p2 p3 p4 p5 p6 ⊢
  have hlen : (i64s B ++ rest).length = xs.length + rest.length := by rw [List.length_append, i64s_len, p3]
  by_cases hm2 : m < xs.length - k
  · have hc1 : (m : Int) < ((xs.length - k : Nat) : Int) := by omega
    have hmm : (m : Int) - 1 = ((m - 1 : Nat) : Int) := by omega
    have hmr : InR .i64 ((m - 1 : Nat) : Int) := by rw [inR64]; omega
    have hc2 : ((m - 1 : Nat) : Int) < ((xs.length - k : Nat) : Int) := by omega
    have hKc : (K : Int) < (xs.length : Int) := by omega
    have hBd : ∀ j, k + m - 1 ≤ j → j < xs.length → (i64s B ++ rest).drop j = I (xs.getD j 0) :: ((i64s B).drop (j + 1) ++ rest) := fun j h1 h2 => by
      rw [List.drop_append_of_le_length (by rw [i64s_len]; omega), i64s_drop (by omega), p4 j h1 h2]; rfl
    have hd2 := hBd (k + m) (by omega) (by omega)
    have hd3 := hBd (k + (m - 1)) (by omega) (by omega)
    by_cases hne : xs.getD (k + m) 0 = xs.getD (k + (m - 1)) 0
    · have e1 : ddN xs (k + (m + 1)) = ddN xs (k + m) := by
        rw [← Nat.add_assoc, ddN, if_pos ⟨by omega, by rw [show k + m - 1 = k + (m - 1) by omega]; exact hne⟩]
      simp only [hc1, hmm, hmr, hc2, hd2, hd3, Nat.mul_one, hne, F_slices_Compact_intW, g_slices_Compact_intW, go_sem, reduceIte, Nat.reduceEqDiff, Nat.reduceAdd, Nat.reduceMul, Nat.reduceSub, reduceCtorEq, Nat.reduceLeDiff, Nat.reduceLT, Int.reduceLT, Int.reduceLE, Int.reduceToNat, Int.reduceAdd, Int.reduceSub, Int.reduceNeg, Int.reduceMul, Int.reduceEq, ← Bool.decide_and, ← Bool.decide_or, ↓tq_n, ↓tq_e, ↓tq_r, ↓bq_n, ↓bq_e, ↓bq_r, ↓rq_n, ↓rq_r, ↓rq_e]
      exact ⟨by rw [inR64]; omega, (m + 1, K, B), ⟨by simp only; omega, by simp only; omega, p3, fun j h1 h2 => p4 j (by simp only at h1; omega) h2, by simp only; rw [e1]; exact p5, by simp only; omega⟩, by simp only; omega, (GStep.forget (by repeat' first | exact EnvLe.nil _ | refine EnvLe.cons (AV.le.of_eq rfl) ?_ | refine EnvLe.cons (AV.le.undef _) ?_ | refine EnvLe.cons AV.le.unk ?_) (by repeat' first | exact AH.le.refl _ | assumption | (refine AH.le_put ?_ (by first | assumption | exact (AH.blk_put_ne _ _ (by assumption)).trans (by assumption) | exact AH.none_put (by assumption) | exact AH.none_put (AH.none_put (by assumption)) | (simp only [AH.blk_setTok, AH.tok_put] at *; first | assumption | exact AH.none_put (by assumption)))) | (refine AH.le_setTok ?_ (by first | assumption | exact (AH.blk_put_ne _ _ (by assumption)).trans (by assumption) | exact AH.none_put (by assumption) | exact AH.none_put (AH.none_put (by assumption)) | (simp only [AH.blk_setTok, AH.tok_put] at *; first | assumption | exact AH.none_put (by assumption)))) | (refine AH.le_putM ?_ (by first | assumption | exact (AH.mp_putM_ne _ _ (by assumption)).trans (by assumption) | (simp only [AH.mp_put, AH.mp_setTok] at *; assumption)))))⟩
    · have e1 : ddN xs (k + (m + 1)) = ddN xs (k + m) ++ [xs.getD (k + m) 0] := by
        rw [← Nat.add_assoc, ddN, if_neg (fun hh => hne (by rw [show k + m - 1 = k + (m - 1) by omega] at hh; exact hh.2))]
      have hset : (i64s B ++ rest).set K (I (xs.getD (k + m) 0)) = i64s (B.set K (xs.getD (k + m) 0)) ++ rest := by
        rw [List.set_append_left _ _ (by rw [i64s_len]; omega), i64s_set]
      simp only [hc1, hmm, hmr, hc2, hd2, hd3, Nat.mul_one, hne, hKc, hlen, hset, F_slices_Compact_intW, g_slices_Compact_intW, go_sem, reduceIte, Nat.reduceEqDiff, Nat.reduceAdd, Nat.reduceMul, Nat.reduceSub, reduceCtorEq, Nat.reduceLeDiff, Nat.reduceLT, Int.reduceLT, Int.reduceLE, Int.reduceToNat, Int.reduceAdd, Int.reduceSub, Int.reduceNeg, Int.reduceMul, Int.reduceEq, ← Bool.decide_and, ← Bool.decide_or, ↓tq_n, ↓tq_e, ↓tq_r, ↓bq_n, ↓bq_e, ↓bq_r, ↓rq_n, ↓rq_r, ↓rq_e]
      refine ⟨by omega, by rw [inR64]; omega, by rw [inR64]; omega, (m + 1, K + 1, B.set K (xs.getD (k + m) 0)), ⟨by simp only; omega, by simp only; omega, by simp only [List.length_set]; exact p3, fun j h1 h2 => ?_, ?_, by simp only; omega⟩, by simp only; omega, (GStep.forget (by repeat' first | exact EnvLe.nil _ | refine EnvLe.cons (AV.le.of_eq rfl) ?_ | refine EnvLe.cons (AV.le.undef _) ?_ | refine EnvLe.cons AV.le.unk ?_) (by repeat' first | exact AH.le.refl _ | assumption | (refine AH.le_put ?_ (by first | assumption | exact (AH.blk_put_ne _ _ (by assumption)).trans (by assumption) | exact AH.none_put (by assumption) | exact AH.none_put (AH.none_put (by assumption)) | (simp only [AH.blk_setTok, AH.tok_put] at *; first | assumption | exact AH.none_put (by assumption)))) | (refine AH.le_setTok ?_ (by first | assumption | exact (AH.blk_put_ne _ _ (by assumption)).trans (by assumption) | exact AH.none_put (by assumption) | exact AH.none_put (AH.none_put (by assumption)) | (simp only [AH.blk_setTok, AH.tok_put] at *; first | assumption | exact AH.none_put (by assumption)))) | (refine AH.le_putM ?_ (by first | assumption | exact (AH.mp_putM_ne _ _ (by assumption)).trans (by assumption) | (simp only [AH.mp_put, AH.mp_setTok] at *; assumption)))))⟩
      · simp only at h1 ⊢
        have : (B.set K (xs.getD (k + m) 0)).getD j 0 = B.getD j 0 := by
          simp only [List.getD, List.getElem?_set]
          rw [if_neg (by omega)]
        rw [this]
        exact p4 j (by omega) h2
      · simp only
        rw [e1, p5]
        have hKB : K < B.length := by omega
        rw [List.take_add_one, List.getElem?_set_self hKB, List.take_set_of_le (Nat.le_refl _)]
        rfl
  have hm2 : m = xs.length - k := by omega
  have hmn : k + m = xs.length := by omega
  rw [hmn] at p5
  have hKq : K < q := by omega
  have hKl : (ddN xs xs.length).length = K := by rw [p5, List.length_take]; omega
  have hc1 : ¬ (m : Int) < ((xs.length - k : Nat) : Int) := by omega
  simp only [hc1, mslCut_lt hKq, Nat.mul_one, hlen, Nat.sub_zero, F_slices_Compact_intW, g_slices_Compact_intW, go_sem, reduceIte, Nat.reduceEqDiff, Nat.reduceAdd, Nat.reduceMul, Nat.reduceSub, reduceCtorEq, Nat.reduceLeDiff, Nat.reduceLT, Int.reduceLT, Int.reduceLE, Int.reduceToNat, Int.reduceAdd, Int.reduceSub, Int.reduceNeg, Int.reduceMul, Int.reduceEq, ← Bool.decide_and, ← Bool.decide_or, ↓tq_n, ↓tq_e, ↓tq_r, ↓bq_n, ↓bq_e, ↓bq_r, ↓rq_n, ↓rq_r, ↓rq_e]
  refine ⟨by omega, by omega, by omega, by omega, ?_⟩
  rw [← hKl]
  refine ⟨Nat.zero_le _, ?_⟩
  have hKx : (ddN xs xs.length).length ≤ xs.length := ddN_len xs xs.length
  have htk : List.take (ddN xs xs.length).length (spl (i64s B ++ rest) (ddN xs xs.length).length (List.replicate (xs.length - (ddN xs xs.length).length) [AV.int IntKind.i64 0]).flatten) = i64s (ddN xs xs.length) := by
    rw [flat_rep, spl_eq _ _ _ (by rw [List.length_replicate, hlen]; omega), List.append_assoc, List.take_append_of_le_length (by rw [List.length_take, hlen]; omega), List.take_take, Nat.min_self, List.take_append_of_le_length (by rw [i64s_len, p3]; exact hKx), i64s_take, hKl, ← p5]
  obtain ⟨r', h'', a1, a2, a3⟩ := hfix (H := h) (cap := some q) (n := (ddN xs xs.length).length) (ys := ddN xs xs.length) rfl htk
  refine ⟨r', h'', a1, a2, ?_⟩
  rw [a3]
  simp only [AH.put, AH.del, AH.mk.injEq, and_true]
  funext x
  by_cases hx : x = b <;> simp [hx]
end Go.Proofs.Ytnekkkjedmlloaa
namespace Go.Proofs.Ytnekkkjedmlloaa
open Go Go.Abs
set_option linter.unusedSimpArgs false
set_option linter.unusedVariables false
set_option maxRecDepth 20000

/-- The types of the first coins of a hoard, and of the first hoards. -/
def ksK (x : Hd) : Nat → List Int
  | 0 => []
  | k + 1 => ksK x k ++ [(x.coins.getD k (0, 0)).1]
def ksI (l : List Hd) : Nat → List Int
  | 0 => []
  | i + 1 => ksI l i ++ ksK (l.getD i dH) (l.getD i dH).coins.length
theorem ksK_len (x : Hd) (k : Nat) : (ksK x k).length = k := by
  induction k with
  | zero => rfl
  | succ k ih => simp [ksK, ih]
theorem mem_ksK {x : Hd} {y : Int} : ∀ {k : Nat}, y ∈ ksK x k ↔ ∃ j, j < k ∧ (x.coins.getD j (0, 0)).1 = y := by
  intro k
  induction k with
  | zero => simp [ksK]
  | succ k ih =>
    rw [ksK, List.mem_append, ih, List.mem_singleton]
    constructor
    · rintro (⟨j, a, b⟩ | rfl)
      · exact ⟨j, by omega, b⟩
      · exact ⟨k, by omega, rfl⟩
    · rintro ⟨j, a, b⟩
      rcases lt_succ_cases a with a | rfl
      · exact .inl ⟨j, a, b⟩
      · exact .inr b.symm
theorem mem_ksI {l : List Hd} {y : Int} : ∀ {n : Nat}, y ∈ ksI l n ↔ ∃ i, i < n ∧ ∃ j, j < (l.getD i dH).coins.length ∧ ((l.getD i dH).coins.getD j (0, 0)).1 = y := by
  intro n
  induction n with
  | zero => simp [ksI]
  | succ n ih =>
    rw [ksI, List.mem_append, ih, mem_ksK]
    constructor
    · rintro (⟨i, a, b⟩ | h)
      · exact ⟨i, by omega, b⟩
      · exact ⟨n, by omega, h⟩
    · rintro ⟨i, a, b⟩
      rcases lt_succ_cases a with a | rfl
      · exact .inl ⟨i, a, b⟩
      · exact .inr b
theorem ksI_len {l : List Hd} (h : ∀ i, i < l.length → (l.getD i dH).coins.length ≤ 32) : ∀ n, n ≤ l.length → (ksI l n).length ≤ 32 * n := by
  intro n
  induction n with
  | zero => intro _; simp [ksI]
  | succ n ih =>
    intro hn
    have := ih (by omega)
    have := h n (by omega)
    simp only [ksI, List.length_append, ksK_len]; omega
/-- The types, each once, in order. -/
def knL (l : List Hd) : List Int := if chk l = 0 then ddN (srt (ksI l l.length)) (srt (ksI l l.length)).length else []
def knownV (l : List Hd) : AV := .tup [gl (i64s (knL l)) (knL l).length .unk, I (chk l)]
theorem srt_le {l : List Int} : ∀ i j, i ≤ j → j < (srt l).length → (srt l).getD i 0 ≤ (srt l).getD j 0 := fun i j hij hj => by
  rcases Nat.lt_or_eq_of_le hij with h | h
  · have := List.pairwise_iff_getElem.1 (srt_sorted l) i j (by omega) hj h
    simp only [List.getD_eq_getElem?_getD, List.getElem?_eq_getElem hj, List.getElem?_eq_getElem (show i < (srt l).length by omega), Option.getD_some]
    exact this
  · subst h; exact Int.le_refl _
theorem knL_asc (l : List Hd) : (knL l).Pairwise (· < ·) := by
  unfold knL
  split
  · exact ddN_asc srt_le _ (Nat.le_refl _)
  · exact .nil
theorem mem_knL {l : List Hd} (hc : chk l = 0) {y : Int} : y ∈ knL l ↔ ∃ i, i < l.length ∧ 0 < numI (l.getD i dH) y := by
  obtain ⟨l8, hvl⟩ := chk_vls hc
  unfold knL
  rw [if_pos hc, ddN_mem]
  have e1 : (∃ j, j < (srt (ksI l l.length)).length ∧ (srt (ksI l l.length)).getD j 0 = y) ↔ y ∈ ksI l l.length := by
    rw [← (srt_perm (ksI l l.length)).mem_iff]
    constructor
    · rintro ⟨j, a, b⟩; rw [← b]; exact mem_getD a
    · intro h
      obtain ⟨j, a, b⟩ := List.getElem_of_mem h
      exact ⟨j, a, by simp [List.getD, a, b]⟩
  rw [e1, mem_ksI]
  have hnum : ∀ i, i < l.length → (0 < numI (l.getD i dH) y ↔ ∃ j, j < (l.getD i dH).coins.length ∧ ((l.getD i dH).coins.getD j (0, 0)).1 = y) := fun i hi => by
    have hv := (hvl i hi).1
    have hcn := cn_iff.1 hv.2.2.1
    unfold numI
    rw [if_pos hv]
    constructor
    · intro h
      unfold val at h
      split at h
      · rename_i h0
        obtain ⟨a, b, _⟩ := idx_spec h0
        exact ⟨_, a, b⟩
      · simp at h
    · rintro ⟨j, a, b⟩
      have h0 : 0 ≤ idx (l.getD i dH).coins y := Classical.byContradiction fun hh => idx_none hh j a b
      obtain ⟨a2, b2, _⟩ := idx_spec h0
      unfold val
      rw [if_pos h0, Option.getD_some]
      have := (hcn.2 _ a2).2.1
      omega
  constructor
  · rintro ⟨i, a, b⟩; exact ⟨i, a, (hnum i a).2 b⟩
  · rintro ⟨i, a, b⟩; exact ⟨i, a, (hnum i a).1 b⟩
theorem s_slices_Compact0 (nl : Bool) (tl : Tail) (h : AH) : ACalls Try.prog n_slices_Compact_intW [.sl nl 0 [] tl] h fun r h' => r = .sl nl 0 [] tl ∧ h' = h := by
  refine ACalls.of hm cF_slices_Compact_intW (by simp [g_slices_Compact_intW]) fun hw => ?_
  have h02 : ((0 : Nat) : Int) < 2 := by omega
  simp only [h02, F_slices_Compact_intW, g_slices_Compact_intW, go_sem, reduceIte, Nat.reduceEqDiff, Nat.reduceAdd, Nat.reduceMul, Nat.reduceSub, reduceCtorEq, Nat.reduceLeDiff, Nat.reduceLT, Int.reduceLT, Int.reduceLE, Int.reduceToNat, Int.reduceAdd, Int.reduceSub, Int.reduceNeg, Int.reduceMul, Int.reduceEq, ← Bool.decide_and, ← Bool.decide_or, ↓tq_n, ↓tq_e, ↓tq_r, ↓bq_n, ↓bq_e, ↓bq_r, ↓rq_n, ↓rq_r, ↓rq_e]
  exact ⟨_, _, RGh.refl _ _, rfl, rfl⟩

set_option maxHeartbeats 1000000 in
theorem r_burial_Known (n1 : Bool) (l : List Hd) (u1 : Tail) (h : AH) : RCall Try.prog n_burial_KnownW [.sl n1 l.length (hds l) u1] h (knownV l) := by
  refine RCall.of hm cF_burial_KnownW (by simp [g_burial_KnownW]) fun hw h' hl => ?_
  simp only [F_burial_KnownW, g_burial_KnownW, go_sem, reduceIte, Nat.reduceEqDiff, Nat.reduceAdd, Nat.reduceMul, Nat.reduceSub, reduceCtorEq, Nat.reduceLeDiff, Nat.reduceLT, Int.reduceLT, Int.reduceLE, Int.reduceToNat, Int.reduceAdd, Int.reduceSub, Int.reduceNeg, Int.reduceMul, Int.reduceEq, ← Bool.decide_and, ← Bool.decide_or, ↓tq_n, ↓tq_e, ↓tq_r, ↓bq_n, ↓bq_e, ↓bq_r, ↓rq_n, ↓rq_r, ↓rq_e]
  refine CallG.mk (r_burial_check n1 l u1 _) ?_
  unfold knownV knL
  by_cases h1 : chk l = 0
  case neg =>
    rw [if_neg h1]
    simp only [h1, F_burial_KnownW, g_burial_KnownW, go_sem, reduceIte, Nat.reduceEqDiff, Nat.reduceAdd, Nat.reduceMul, Nat.reduceSub, reduceCtorEq, Nat.reduceLeDiff, Nat.reduceLT, Int.reduceLT, Int.reduceLE, Int.reduceToNat, Int.reduceAdd, Int.reduceSub, Int.reduceNeg, Int.reduceMul, Int.reduceEq, ← Bool.decide_and, ← Bool.decide_or, ↓tq_n, ↓tq_e, ↓tq_r, ↓bq_n, ↓bq_e, ↓bq_r, ↓rq_n, ↓rq_r, ↓rq_e]
    exact ret_le (AH.le.refl _) (AV.le.tupC (.cons AV.le.glU (.cons (AV.le.refl _) .nil)))
  obtain ⟨l8, hvl⟩ := chk_vls h1
  have hc32 : ∀ i, i < l.length → (l.getD i dH).coins.length ≤ 32 := fun i hi => (hvl i hi).1.2.1.2
  rw [if_pos h1]
  simp only [h1, F_burial_KnownW, g_burial_KnownW, go_sem, reduceIte, Nat.reduceEqDiff, Nat.reduceAdd, Nat.reduceMul, Nat.reduceSub, reduceCtorEq, Nat.reduceLeDiff, Nat.reduceLT, Int.reduceLT, Int.reduceLE, Int.reduceToNat, Int.reduceAdd, Int.reduceSub, Int.reduceNeg, Int.reduceMul, Int.reduceEq, ← Bool.decide_and, ← Bool.decide_or, ↓tq_n, ↓tq_e, ↓tq_r, ↓bq_n, ↓bq_e, ↓bq_r, ↓rq_n, ↓rq_r, ↓rq_e]
  refine awp_loop (α := Nat × AV × AH) (fun p => [(5, p.2.1), (15, .sl n1 l.length (hds l) u1), (16, I l.length), (17, I p.1)]) (fun p => p.2.2) (fun p => p.1 ≤ l.length ∧ Gr h' p.2.1 (ksI l p.1) p.2.2) (fun p => l.length - p.1) (0, .sl true 0 [] .full, h') ⟨Nat.zero_le _, Gr.new h'⟩ (GStep.forget (by repeat' first | exact EnvLe.nil _ | refine EnvLe.cons (AV.le.of_eq rfl) ?_ | refine EnvLe.cons (AV.le.undef _) ?_ | refine EnvLe.cons AV.le.unk ?_) (by repeat' first | exact AH.le.refl _ | assumption | (refine AH.le_put ?_ (by first | assumption | exact (AH.blk_put_ne _ _ (by assumption)).trans (by assumption) | exact AH.none_put (by assumption) | exact AH.none_put (AH.none_put (by assumption)) | (simp only [AH.blk_setTok, AH.tok_put] at *; first | assumption | exact AH.none_put (by assumption)))) | (refine AH.le_setTok ?_ (by first | assumption | exact (AH.blk_put_ne _ _ (by assumption)).trans (by assumption) | exact AH.none_put (by assumption) | exact AH.none_put (AH.none_put (by assumption)) | (simp only [AH.blk_setTok, AH.tok_put] at *; first | assumption | exact AH.none_put (by assumption)))) | (refine AH.le_putM ?_ (by first | assumption | exact (AH.mp_putM_ne _ _ (by assumption)).trans (by assumption) | (simp only [AH.mp_put, AH.mp_setTok] at *; assumption))))) fun p hp => .of_vg hm ?_
  obtain ⟨i, x, H⟩ := p
  obtain ⟨h3, h4⟩ := hp
  simp only at h3 h4 ⊢
  by_cases h5 : i < l.length
  · have hc : (i : Int) < (l.length : Int) := by omega
    have hil := ksI_len hc32 i h3
    have hci := hc32 i h5
    simp only [hc, hds_drop h5, Hd.cs, F_burial_KnownW, g_burial_KnownW, go_sem, reduceIte, Nat.reduceEqDiff, Nat.reduceAdd, Nat.reduceMul, Nat.reduceSub, reduceCtorEq, Nat.reduceLeDiff, Nat.reduceLT, Int.reduceLT, Int.reduceLE, Int.reduceToNat, Int.reduceAdd, Int.reduceSub, Int.reduceNeg, Int.reduceMul, Int.reduceEq, ← Bool.decide_and, ← Bool.decide_or, ↓tq_n, ↓tq_e, ↓tq_r, ↓bq_n, ↓bq_e, ↓bq_r, ↓rq_n, ↓rq_r, ↓rq_e]
    refine awp_loop (α := Nat × AV × AH) (fun p => [(5, p.2.1), (15, .sl n1 l.length (hds l) u1), (16, I l.length), (17, I i), (22, .sl (l.getD i dH).nl (l.getD i dH).coins.length (prs (l.getD i dH).coins) (l.getD i dH).tl), (23, I (l.getD i dH).coins.length), (24, I p.1)]) (fun p => p.2.2) (fun p => p.1 ≤ (l.getD i dH).coins.length ∧ Gr h' p.2.1 (ksI l i ++ ksK (l.getD i dH) p.1) p.2.2) (fun p => (l.getD i dH).coins.length - p.1) (0, x, H) ⟨Nat.zero_le _, by simpa [ksK] using h4⟩ (GStep.forget (by repeat' first | exact EnvLe.nil _ | refine EnvLe.cons (AV.le.of_eq rfl) ?_ | refine EnvLe.cons (AV.le.undef _) ?_ | refine EnvLe.cons AV.le.unk ?_) (by repeat' first | exact AH.le.refl _ | assumption | (refine AH.le_put ?_ (by first | assumption | exact (AH.blk_put_ne _ _ (by assumption)).trans (by assumption) | exact AH.none_put (by assumption) | exact AH.none_put (AH.none_put (by assumption)) | (simp only [AH.blk_setTok, AH.tok_put] at *; first | assumption | exact AH.none_put (by assumption)))) | (refine AH.le_setTok ?_ (by first | assumption | exact (AH.blk_put_ne _ _ (by assumption)).trans (by assumption) | exact AH.none_put (by assumption) | exact AH.none_put (AH.none_put (by assumption)) | (simp only [AH.blk_setTok, AH.tok_put] at *; first | assumption | exact AH.none_put (by assumption)))) | (refine AH.le_putM ?_ (by first | assumption | exact (AH.mp_putM_ne _ _ (by assumption)).trans (by assumption) | (simp only [AH.mp_put, AH.mp_setTok] at *; assumption))))) fun p hp => .of_vg hm ?_
    obtain ⟨k, y, H2⟩ := p
    obtain ⟨h6, h7⟩ := hp
    simp only at h6 h7 ⊢
    by_cases h8 : k < (l.getD i dH).coins.length
    · have hc8 : (k : Int) < ((l.getD i dH).coins.length : Int) := by omega
      simp only [hc8, prs_drop h8, F_burial_KnownW, g_burial_KnownW, go_sem, reduceIte, Nat.reduceEqDiff, Nat.reduceAdd, Nat.reduceMul, Nat.reduceSub, reduceCtorEq, Nat.reduceLeDiff, Nat.reduceLT, Int.reduceLT, Int.reduceLE, Int.reduceToNat, Int.reduceAdd, Int.reduceSub, Int.reduceNeg, Int.reduceMul, Int.reduceEq, ← Bool.decide_and, ← Bool.decide_or, ↓tq_n, ↓tq_e, ↓tq_r, ↓bq_n, ↓bq_e, ↓bq_r, ↓rq_n, ↓rq_r, ↓rq_e]
      refine h7.step (by rw [List.length_append, ksK_len]; omega) fun x' H' hk => ?_
      simp only [F_burial_KnownW, g_burial_KnownW, go_sem, reduceIte, Nat.reduceEqDiff, Nat.reduceAdd, Nat.reduceMul, Nat.reduceSub, reduceCtorEq, Nat.reduceLeDiff, Nat.reduceLT, Int.reduceLT, Int.reduceLE, Int.reduceToNat, Int.reduceAdd, Int.reduceSub, Int.reduceNeg, Int.reduceMul, Int.reduceEq, ← Bool.decide_and, ← Bool.decide_or, ↓tq_n, ↓tq_e, ↓tq_r, ↓bq_n, ↓bq_e, ↓bq_r, ↓rq_n, ↓rq_r, ↓rq_e]
      refine ⟨by rw [inR64]; omega, (k + 1, x', H'), ⟨by simp only; omega, ?_⟩, by simp only; omega, (GStep.forget (by repeat' first | exact EnvLe.nil _ | refine EnvLe.cons (AV.le.of_eq rfl) ?_ | refine EnvLe.cons (AV.le.undef _) ?_ | refine EnvLe.cons AV.le.unk ?_) (by repeat' first | exact AH.le.refl _ | assumption | (refine AH.le_put ?_ (by first | assumption | exact (AH.blk_put_ne _ _ (by assumption)).trans (by assumption) | exact AH.none_put (by assumption) | exact AH.none_put (AH.none_put (by assumption)) | (simp only [AH.blk_setTok, AH.tok_put] at *; first | assumption | exact AH.none_put (by assumption)))) | (refine AH.le_setTok ?_ (by first | assumption | exact (AH.blk_put_ne _ _ (by assumption)).trans (by assumption) | exact AH.none_put (by assumption) | exact AH.none_put (AH.none_put (by assumption)) | (simp only [AH.blk_setTok, AH.tok_put] at *; first | assumption | exact AH.none_put (by assumption)))) | (refine AH.le_putM ?_ (by first | assumption | exact (AH.mp_putM_ne _ _ (by assumption)).trans (by assumption) | (simp only [AH.mp_put, AH.mp_setTok] at *; assumption)))))⟩
      simp only [ksK, ← List.append_assoc]
      exact hk
    have h8 : k = (l.getD i dH).coins.length := by omega
    subst h8
    simp only [F_burial_KnownW, g_burial_KnownW, go_sem, reduceIte, Nat.reduceEqDiff, Nat.reduceAdd, Nat.reduceMul, Nat.reduceSub, reduceCtorEq, Nat.reduceLeDiff, Nat.reduceLT, Int.reduceLT, Int.reduceLE, Int.reduceToNat, Int.reduceAdd, Int.reduceSub, Int.reduceNeg, Int.reduceMul, Int.reduceEq, ← Bool.decide_and, ← Bool.decide_or, ↓tq_n, ↓tq_e, ↓tq_r, ↓bq_n, ↓bq_e, ↓bq_r, ↓rq_n, ↓rq_r, ↓rq_e]
    exact ⟨by rw [inR64]; omega, (i + 1, y, H2), ⟨by simp only; omega, h7⟩, by simp only; omega, (GStep.forget (by repeat' first | exact EnvLe.nil _ | refine EnvLe.cons (AV.le.of_eq rfl) ?_ | refine EnvLe.cons (AV.le.undef _) ?_ | refine EnvLe.cons AV.le.unk ?_) (by repeat' first | exact AH.le.refl _ | assumption | (refine AH.le_put ?_ (by first | assumption | exact (AH.blk_put_ne _ _ (by assumption)).trans (by assumption) | exact AH.none_put (by assumption) | exact AH.none_put (AH.none_put (by assumption)) | (simp only [AH.blk_setTok, AH.tok_put] at *; first | assumption | exact AH.none_put (by assumption)))) | (refine AH.le_setTok ?_ (by first | assumption | exact (AH.blk_put_ne _ _ (by assumption)).trans (by assumption) | exact AH.none_put (by assumption) | exact AH.none_put (AH.none_put (by assumption)) | (simp only [AH.blk_setTok, AH.tok_put] at *; first | assumption | exact AH.none_put (by assumption)))) | (refine AH.le_putM ?_ (by first | assumption | exact (AH.mp_putM_ne _ _ (by assumption)).trans (by assumption) | (simp only [AH.mp_put, AH.mp_setTok] at *; assumption)))))⟩
  have h5 : i = l.length := by omega
  subst h5
  have hks := ksI_len hc32 l.length (Nat.le_refl _)
  rcases h4 with ⟨hle, ⟨hz, rfl⟩ | ⟨hne, b, q, rfl, hq, hb, hn⟩⟩
  · simp only [F_burial_KnownW, g_burial_KnownW, go_sem, reduceIte, Nat.reduceEqDiff, Nat.reduceAdd, Nat.reduceMul, Nat.reduceSub, reduceCtorEq, Nat.reduceLeDiff, Nat.reduceLT, Int.reduceLT, Int.reduceLE, Int.reduceToNat, Int.reduceAdd, Int.reduceSub, Int.reduceNeg, Int.reduceMul, Int.reduceEq, ← Bool.decide_and, ← Bool.decide_or, ↓tq_n, ↓tq_e, ↓tq_r, ↓bq_n, ↓bq_e, ↓bq_r, ↓rq_n, ↓rq_r, ↓rq_e]
    refine CallS.mk (s_sort0 sortLays _ true .full (by kernel_rfl)) fun r H' hr => ?_
    obtain ⟨rfl, rfl⟩ := hr
    simp only [F_burial_KnownW, g_burial_KnownW, go_sem, reduceIte, Nat.reduceEqDiff, Nat.reduceAdd, Nat.reduceMul, Nat.reduceSub, reduceCtorEq, Nat.reduceLeDiff, Nat.reduceLT, Int.reduceLT, Int.reduceLE, Int.reduceToNat, Int.reduceAdd, Int.reduceSub, Int.reduceNeg, Int.reduceMul, Int.reduceEq, ← Bool.decide_and, ← Bool.decide_or, ↓tq_n, ↓tq_e, ↓tq_r, ↓bq_n, ↓bq_e, ↓bq_r, ↓rq_n, ↓rq_r, ↓rq_e]
    refine CallS.mk (s_slices_Compact0 true .full _) fun r H' hr => ?_
    obtain ⟨rfl, rfl⟩ := hr
    simp only [F_burial_KnownW, g_burial_KnownW, go_sem, reduceIte, Nat.reduceEqDiff, Nat.reduceAdd, Nat.reduceMul, Nat.reduceSub, reduceCtorEq, Nat.reduceLeDiff, Nat.reduceLT, Int.reduceLT, Int.reduceLE, Int.reduceToNat, Int.reduceAdd, Int.reduceSub, Int.reduceNeg, Int.reduceMul, Int.reduceEq, ← Bool.decide_and, ← Bool.decide_or, ↓tq_n, ↓tq_e, ↓tq_r, ↓bq_n, ↓bq_e, ↓bq_r, ↓rq_n, ↓rq_r, ↓rq_e]
    refine ret_le hle ?_
    have e0 : ddN (srt ([] : List Int)) (srt ([] : List Int)).length = [] := List.eq_nil_of_length_eq_zero (by
      have a1 := ddN_len (srt ([] : List Int)) (srt ([] : List Int)).length
      have a2 := srt_len ([] : List Int)
      rw [List.length_nil] at a2
      omega)
    rw [hz, h1, e0]
    exact AV.le.tupC (.cons AV.le.unk (.cons (AV.le.refl _) .nil))
  · have hpos : 1 ≤ (ksI l l.length).length := by
      rcases Nat.eq_zero_or_pos (ksI l l.length).length with h0 | h0
      · exact absurd (List.eq_nil_of_length_eq_zero h0) hne
      · exact h0
    have hsl := srt_len (ksI l l.length)
    simp only [F_burial_KnownW, g_burial_KnownW, go_sem, reduceIte, Nat.reduceEqDiff, Nat.reduceAdd, Nat.reduceMul, Nat.reduceSub, reduceCtorEq, Nat.reduceLeDiff, Nat.reduceLT, Int.reduceLT, Int.reduceLE, Int.reduceToNat, Int.reduceAdd, Int.reduceSub, Int.reduceNeg, Int.reduceMul, Int.reduceEq, ← Bool.decide_and, ← Bool.decide_or, ↓tq_n, ↓tq_e, ↓tq_r, ↓bq_n, ↓bq_e, ↓bq_r, ↓rq_n, ↓rq_r, ↓rq_e]
    refine CallS.mk (s_slices_Sort_int hb rfl (by omega)) fun r H' hr => ?_
    obtain ⟨rfl, rfl⟩ := hr
    simp only [F_burial_KnownW, g_burial_KnownW, go_sem, reduceIte, Nat.reduceEqDiff, Nat.reduceAdd, Nat.reduceMul, Nat.reduceSub, reduceCtorEq, Nat.reduceLeDiff, Nat.reduceLT, Int.reduceLT, Int.reduceLE, Int.reduceToNat, Int.reduceAdd, Int.reduceSub, Int.reduceNeg, Int.reduceMul, Int.reduceEq, ← Bool.decide_and, ← Bool.decide_or, ↓tq_n, ↓tq_e, ↓tq_r, ↓bq_n, ↓bq_e, ↓bq_r, ↓rq_n, ↓rq_r, ↓rq_e]
    rw [← hsl]
    refine CallS.mk (s_slices_Compact_int (srt (ksI l l.length)) (by omega) (by omega) (q := q) (by omega) (AH.blk_put _ _ _)) fun r H' hr => ?_
    obtain ⟨rfl, rfl⟩ := hr
    simp only [F_burial_KnownW, g_burial_KnownW, go_sem, reduceIte, Nat.reduceEqDiff, Nat.reduceAdd, Nat.reduceMul, Nat.reduceSub, reduceCtorEq, Nat.reduceLeDiff, Nat.reduceLT, Int.reduceLT, Int.reduceLE, Int.reduceToNat, Int.reduceAdd, Int.reduceSub, Int.reduceNeg, Int.reduceMul, Int.reduceEq, ← Bool.decide_and, ← Bool.decide_or, ↓tq_n, ↓tq_e, ↓tq_r, ↓bq_n, ↓bq_e, ↓bq_r, ↓rq_n, ↓rq_r, ↓rq_e]
    have hd0 : (ddN (srt (ksI l l.length)) (srt (ksI l l.length)).length).length ≠ 0 := fun hh => by
      have h0 := List.eq_nil_of_length_eq_zero hh
      have hm0 := (ddN_mem (srt (ksI l l.length)) (srt (ksI l l.length)).length ((srt (ksI l l.length)).getD 0 0)).2 ⟨0, by omega, rfl⟩
      rw [h0] at hm0
      simp at hm0
    rw [h1, gl_pos (by omega)]
    refine ret_le (h0 := h') ?_ (AV.le.refl _)
    refine ⟨fun c cs e => ?_, hle.tok, hle.mp⟩
    have hcb : c ≠ b := fun hh => by subst hh; rw [hn] at e; cases e
    simp only [AH.del, AH.put]
    rw [if_neg hcb, if_neg hcb]
    exact hle.blk c cs e
end Go.Proofs.Ytnekkkjedmlloaa
namespace Go.Proofs.Ytnekkkjedmlloaa
open Go Go.Abs
set_option linter.unusedSimpArgs false
set_option linter.unusedVariables false
set_option maxRecDepth 20000

/-- Whether one of the first i hoards has a type. -/
def smH (l : List Hd) (t : Int) : Nat → Bool
  | 0 => false
  | i + 1 => smH l t i || decide (0 < numI (l.getD i dH) t)
theorem smH_iff {l : List Hd} {t : Int} : ∀ {n : Nat}, smH l t n = true ↔ ∃ i, i < n ∧ 0 < numI (l.getD i dH) t := by
  intro n
  induction n with
  | zero => simp [smH]
  | succ n ih =>
    rw [smH, Bool.or_eq_true, ih, decide_eq_true_eq]
    constructor
    · rintro (⟨i, a, b⟩ | h)
      · exact ⟨i, by omega, b⟩
      · exact ⟨n, by omega, h⟩
    · rintro ⟨i, a, b⟩
      rcases lt_succ_cases a with a | rfl
      · exact .inl ⟨i, a, b⟩
      · exact .inr b
def rkI (l : List Hd) : Nat → List Int
  | 0 => []
  | m + 1 => if smH l ((m + 1 : Nat) : Int) l.length = true then rkI l m ++ [((m + 1 : Nat) : Int)] else rkI l m
theorem mem_rkI {l : List Hd} {y : Int} : ∀ {m : Nat}, y ∈ rkI l m ↔ (1 ≤ y ∧ y ≤ m) ∧ ∃ i, i < l.length ∧ 0 < numI (l.getD i dH) y := by
  intro m
  induction m with
  | zero => simp only [rkI, List.not_mem_nil, false_iff]; rintro ⟨⟨a, b⟩, _⟩; omega
  | succ m ih =>
    unfold rkI
    split
    · rename_i hc
      rw [List.mem_append, ih, List.mem_singleton]
      constructor
      · rintro (⟨a, b⟩ | rfl)
        · exact ⟨by omega, b⟩
        · exact ⟨by omega, smH_iff.1 hc⟩
      · rintro ⟨a, b⟩
        by_cases hy : y = ((m + 1 : Nat) : Int)
        · exact .inr hy
        · exact .inl ⟨by omega, b⟩
    · rename_i hc
      rw [ih]
      constructor
      · rintro ⟨a, b⟩; exact ⟨by omega, b⟩
      · rintro ⟨a, b⟩
        by_cases hy : y = ((m + 1 : Nat) : Int)
        · subst hy; exact absurd (smH_iff.2 b) hc
        · exact ⟨by omega, b⟩
theorem rkI_asc (l : List Hd) : ∀ m, (rkI l m).Pairwise (· < ·) := by
  intro m
  induction m with
  | zero => exact .nil
  | succ m ih =>
    unfold rkI
    split
    · refine List.pairwise_append.2 ⟨ih, List.pairwise_singleton _ _, fun a ha b hb => ?_⟩
      rw [List.mem_singleton] at hb
      have := (mem_rkI.1 ha).1
      omega
    · exact ih
theorem rkI_len (l : List Hd) : ∀ m, (rkI l m).length ≤ m := by
  intro m
  induction m with
  | zero => simp [rkI]
  | succ m ih => unfold rkI; split
                 · simp only [List.length_append, List.length_singleton]; omega
                 · omega
theorem num_key {l : List Hd} (hc : chk l = 0) {i : Nat} (hi : i < l.length) {y : Int} (h : 0 < numI (l.getD i dH) y) : 1 ≤ y ∧ y ≤ 99 := by
  obtain ⟨l8, hvl⟩ := chk_vls hc
  have hv := (hvl i hi).1
  have hcn := cn_iff.1 hv.2.2.1
  unfold numI at h
  rw [if_pos hv] at h
  unfold val at h
  split at h
  · rename_i h0
    obtain ⟨a, b, _⟩ := idx_spec h0
    have := (hcn.2 _ a).1
    omega
  · simp at h
theorem rk_knL {l : List Hd} (hc : chk l = 0) : rkI l 99 = knL l := by
  refine asc_ext (rkI_asc l 99) (knL_asc l) fun y => ?_
  rw [mem_rkI, mem_knL hc]
  constructor
  · exact fun h => h.2
  · rintro ⟨i, a, b⟩
    have := num_key hc a b
    exact ⟨by omega, i, a, b⟩
theorem r_ref_Known (n1 : Bool) (l : List Hd) (u1 : Tail) (h : AH) : RCall Try.prog n_ref_Known [.sl n1 l.length (hds l) u1] h (knownV l) := by
  refine RCall.of hm cF_ref_Known (by simp [g_ref_Known]) fun hw h' hl => ?_
  simp only [F_ref_Known, g_ref_Known, go_sem, reduceIte, Nat.reduceEqDiff, Nat.reduceAdd, Nat.reduceMul, Nat.reduceSub, reduceCtorEq, Nat.reduceLeDiff, Nat.reduceLT, Int.reduceLT, Int.reduceLE, Int.reduceToNat, Int.reduceAdd, Int.reduceSub, Int.reduceNeg, Int.reduceMul, Int.reduceEq, ← Bool.decide_and, ← Bool.decide_or, ↓tq_n, ↓tq_e, ↓tq_r, ↓bq_n, ↓bq_e, ↓bq_r, ↓rq_n, ↓rq_r, ↓rq_e]
  refine CallG.mk (r_ref_Check n1 l u1 _) ?_
  unfold knownV
  by_cases h1 : chk l = 0
  case neg =>
    have e0 : knL l = [] := by unfold knL; rw [if_neg h1]
    rw [e0]
    simp only [h1, F_ref_Known, g_ref_Known, go_sem, reduceIte, Nat.reduceEqDiff, Nat.reduceAdd, Nat.reduceMul, Nat.reduceSub, reduceCtorEq, Nat.reduceLeDiff, Nat.reduceLT, Int.reduceLT, Int.reduceLE, Int.reduceToNat, Int.reduceAdd, Int.reduceSub, Int.reduceNeg, Int.reduceMul, Int.reduceEq, ← Bool.decide_and, ← Bool.decide_or, ↓tq_n, ↓tq_e, ↓tq_r, ↓bq_n, ↓bq_e, ↓bq_r, ↓rq_n, ↓rq_r, ↓rq_e]
    exact ret_le (AH.le.refl _) (AV.le.tupC (.cons AV.le.glU (.cons (AV.le.refl _) .nil)))
  obtain ⟨l8, hvl⟩ := chk_vls h1
  rw [← rk_knL h1]
  simp only [h1, F_ref_Known, g_ref_Known, go_sem, reduceIte, Nat.reduceEqDiff, Nat.reduceAdd, Nat.reduceMul, Nat.reduceSub, reduceCtorEq, Nat.reduceLeDiff, Nat.reduceLT, Int.reduceLT, Int.reduceLE, Int.reduceToNat, Int.reduceAdd, Int.reduceSub, Int.reduceNeg, Int.reduceMul, Int.reduceEq, ← Bool.decide_and, ← Bool.decide_or, ↓tq_n, ↓tq_e, ↓tq_r, ↓bq_n, ↓bq_e, ↓bq_r, ↓rq_n, ↓rq_r, ↓rq_e]
  refine awp_tok 5 1 (nl := true) (n := 0) (cs := []) rfl fun tk ht => ?_
  refine awp_loop (fun m : Nat => [(0, .sl n1 l.length (hds l) u1), (5, gl (i64s (rkI l m)) (rkI l m).length (.tok tk)), (6, I ((m + 1 : Nat) : Int))]) (fun m => h'.setTok tk (rkI l m).length 1) (fun m => m ≤ 99) (fun m => 99 - m) 0 (Nat.zero_le _) (GStep.forget (by repeat' first | exact EnvLe.nil _ | refine EnvLe.cons (AV.le.of_eq rfl) ?_ | refine EnvLe.cons (AV.le.undef _) ?_ | refine EnvLe.cons AV.le.unk ?_) (by repeat' first | exact AH.le.refl _ | assumption | (refine AH.le_put ?_ (by first | assumption | exact (AH.blk_put_ne _ _ (by assumption)).trans (by assumption) | exact AH.none_put (by assumption) | exact AH.none_put (AH.none_put (by assumption)) | (simp only [AH.blk_setTok, AH.tok_put] at *; first | assumption | exact AH.none_put (by assumption)))) | (refine AH.le_setTok ?_ (by first | assumption | exact (AH.blk_put_ne _ _ (by assumption)).trans (by assumption) | exact AH.none_put (by assumption) | exact AH.none_put (AH.none_put (by assumption)) | (simp only [AH.blk_setTok, AH.tok_put] at *; first | assumption | exact AH.none_put (by assumption)))) | (refine AH.le_putM ?_ (by first | assumption | exact (AH.mp_putM_ne _ _ (by assumption)).trans (by assumption) | (simp only [AH.mp_put, AH.mp_setTok] at *; assumption))))) fun m hm2 => .of_vg hm ?_
  by_cases h5 : m < 99
  · have hc : ((m + 1 : Nat) : Int) ≤ 99 := by omega
    have hml := rkI_len l m
    simp only [hc, F_ref_Known, g_ref_Known, go_sem, reduceIte, Nat.reduceEqDiff, Nat.reduceAdd, Nat.reduceMul, Nat.reduceSub, reduceCtorEq, Nat.reduceLeDiff, Nat.reduceLT, Int.reduceLT, Int.reduceLE, Int.reduceToNat, Int.reduceAdd, Int.reduceSub, Int.reduceNeg, Int.reduceMul, Int.reduceEq, ← Bool.decide_and, ← Bool.decide_or, ↓tq_n, ↓tq_e, ↓tq_r, ↓bq_n, ↓bq_e, ↓bq_r, ↓rq_n, ↓rq_r, ↓rq_e]
    refine awp_loop (fun i : Nat => [(0, .sl n1 l.length (hds l) u1), (5, gl (i64s (rkI l m)) (rkI l m).length (.tok tk)), (6, I ((m + 1 : Nat) : Int)), (7, .bool (smH l ((m + 1 : Nat) : Int) i)), (8, I i)]) (fun _ => h'.setTok tk (rkI l m).length 1) (fun i => i ≤ l.length) (fun i => l.length - i) 0 (Nat.zero_le _) (GStep.forget (by repeat' first | exact EnvLe.nil _ | refine EnvLe.cons (AV.le.of_eq rfl) ?_ | refine EnvLe.cons (AV.le.undef _) ?_ | refine EnvLe.cons AV.le.unk ?_) (by repeat' first | exact AH.le.refl _ | assumption | (refine AH.le_put ?_ (by first | assumption | exact (AH.blk_put_ne _ _ (by assumption)).trans (by assumption) | exact AH.none_put (by assumption) | exact AH.none_put (AH.none_put (by assumption)) | (simp only [AH.blk_setTok, AH.tok_put] at *; first | assumption | exact AH.none_put (by assumption)))) | (refine AH.le_setTok ?_ (by first | assumption | exact (AH.blk_put_ne _ _ (by assumption)).trans (by assumption) | exact AH.none_put (by assumption) | exact AH.none_put (AH.none_put (by assumption)) | (simp only [AH.blk_setTok, AH.tok_put] at *; first | assumption | exact AH.none_put (by assumption)))) | (refine AH.le_putM ?_ (by first | assumption | exact (AH.mp_putM_ne _ _ (by assumption)).trans (by assumption) | (simp only [AH.mp_put, AH.mp_setTok] at *; assumption))))) fun i hi => .of_vg hm ?_
    by_cases h6 : i < l.length
    · have hc6 : (i : Int) < (l.length : Int) := by omega
      by_cases h7 : smH l ((m + 1 : Nat) : Int) i = true
      · have e7 : smH l ((m + 1 : Nat) : Int) (i + 1) = true := by rw [smH, h7]; rfl
        simp only [hc6, h7, F_ref_Known, g_ref_Known, go_sem, reduceIte, Nat.reduceEqDiff, Nat.reduceAdd, Nat.reduceMul, Nat.reduceSub, reduceCtorEq, Nat.reduceLeDiff, Nat.reduceLT, Int.reduceLT, Int.reduceLE, Int.reduceToNat, Int.reduceAdd, Int.reduceSub, Int.reduceNeg, Int.reduceMul, Int.reduceEq, ← Bool.decide_and, ← Bool.decide_or, ↓tq_n, ↓tq_e, ↓tq_r, ↓bq_n, ↓bq_e, ↓bq_r, ↓rq_n, ↓rq_r, ↓rq_e]
        refine ⟨by rw [inR64]; omega, i + 1, by omega, by omega, ?_⟩
        rw [e7]
        exact (GStep.forget (by repeat' first | exact EnvLe.nil _ | refine EnvLe.cons (AV.le.of_eq rfl) ?_ | refine EnvLe.cons (AV.le.undef _) ?_ | refine EnvLe.cons AV.le.unk ?_) (by repeat' first | exact AH.le.refl _ | assumption | (refine AH.le_put ?_ (by first | assumption | exact (AH.blk_put_ne _ _ (by assumption)).trans (by assumption) | exact AH.none_put (by assumption) | exact AH.none_put (AH.none_put (by assumption)) | (simp only [AH.blk_setTok, AH.tok_put] at *; first | assumption | exact AH.none_put (by assumption)))) | (refine AH.le_setTok ?_ (by first | assumption | exact (AH.blk_put_ne _ _ (by assumption)).trans (by assumption) | exact AH.none_put (by assumption) | exact AH.none_put (AH.none_put (by assumption)) | (simp only [AH.blk_setTok, AH.tok_put] at *; first | assumption | exact AH.none_put (by assumption)))) | (refine AH.le_putM ?_ (by first | assumption | exact (AH.mp_putM_ne _ _ (by assumption)).trans (by assumption) | (simp only [AH.mp_put, AH.mp_setTok] at *; assumption)))))
      · have h7 : smH l ((m + 1 : Nat) : Int) i = false := by simpa using h7
        have e7 : smH l ((m + 1 : Nat) : Int) (i + 1) = decide (0 < numI (l.getD i dH) ((m + 1 : Nat) : Int)) := by rw [smH, h7]; rfl
        simp only [hc6, h7, hds_drop h6, F_ref_Known, g_ref_Known, go_sem, reduceIte, Nat.reduceEqDiff, Nat.reduceAdd, Nat.reduceMul, Nat.reduceSub, reduceCtorEq, Nat.reduceLeDiff, Nat.reduceLT, Int.reduceLT, Int.reduceLE, Int.reduceToNat, Int.reduceAdd, Int.reduceSub, Int.reduceNeg, Int.reduceMul, Int.reduceEq, ← Bool.decide_and, ← Bool.decide_or, ↓tq_n, ↓tq_e, ↓tq_r, ↓bq_n, ↓bq_e, ↓bq_r, ↓rq_n, ↓rq_r, ↓rq_e]
        refine CallG.mk (r_ref_Number (l.getD i dH) ((m + 1 : Nat) : Int) _) ?_
        simp only [F_ref_Known, g_ref_Known, go_sem, reduceIte, Nat.reduceEqDiff, Nat.reduceAdd, Nat.reduceMul, Nat.reduceSub, reduceCtorEq, Nat.reduceLeDiff, Nat.reduceLT, Int.reduceLT, Int.reduceLE, Int.reduceToNat, Int.reduceAdd, Int.reduceSub, Int.reduceNeg, Int.reduceMul, Int.reduceEq, ← Bool.decide_and, ← Bool.decide_or, ↓tq_n, ↓tq_e, ↓tq_r, ↓bq_n, ↓bq_e, ↓bq_r, ↓rq_n, ↓rq_r, ↓rq_e]
        refine ⟨by rw [inR64]; omega, i + 1, by omega, by omega, ?_⟩
        rw [e7]
        exact (GStep.forget (by repeat' first | exact EnvLe.nil _ | refine EnvLe.cons (AV.le.of_eq rfl) ?_ | refine EnvLe.cons (AV.le.undef _) ?_ | refine EnvLe.cons AV.le.unk ?_) (by repeat' first | exact AH.le.refl _ | assumption | (refine AH.le_put ?_ (by first | assumption | exact (AH.blk_put_ne _ _ (by assumption)).trans (by assumption) | exact AH.none_put (by assumption) | exact AH.none_put (AH.none_put (by assumption)) | (simp only [AH.blk_setTok, AH.tok_put] at *; first | assumption | exact AH.none_put (by assumption)))) | (refine AH.le_setTok ?_ (by first | assumption | exact (AH.blk_put_ne _ _ (by assumption)).trans (by assumption) | exact AH.none_put (by assumption) | exact AH.none_put (AH.none_put (by assumption)) | (simp only [AH.blk_setTok, AH.tok_put] at *; first | assumption | exact AH.none_put (by assumption)))) | (refine AH.le_putM ?_ (by first | assumption | exact (AH.mp_putM_ne _ _ (by assumption)).trans (by assumption) | (simp only [AH.mp_put, AH.mp_setTok] at *; assumption)))))
    have h6 : i = l.length := by omega
    subst h6
    by_cases h7 : smH l ((m + 1 : Nat) : Int) l.length = true
    · have e7 : rkI l (m + 1) = rkI l m ++ [((m + 1 : Nat) : Int)] := by rw [rkI, if_pos h7]
      have hln : (i64s (rkI l m)).length = (rkI l m).length := by rw [i64s_len]
      simp only [h7, F_ref_Known, g_ref_Known, go_sem, reduceIte, Nat.reduceEqDiff, Nat.reduceAdd, Nat.reduceMul, Nat.reduceSub, reduceCtorEq, Nat.reduceLeDiff, Nat.reduceLT, Int.reduceLT, Int.reduceLE, Int.reduceToNat, Int.reduceAdd, Int.reduceSub, Int.reduceNeg, Int.reduceMul, Int.reduceEq, ← Bool.decide_and, ← Bool.decide_or, ↓tq_n, ↓tq_e, ↓tq_r, ↓bq_n, ↓bq_e, ↓bq_r, ↓rq_n, ↓rq_r, ↓rq_e]
      refine ⟨hln, by omega, by omega, by rw [inR64]; omega, m + 1, by omega, by omega, ?_⟩
      simp only [e7, i64s_append, i64s_one, List.length_append, List.length_cons, List.length_nil, ← Nat.add_assoc]
      exact (GStep.forget (by repeat' first | exact EnvLe.nil _ | refine EnvLe.cons (AV.le.of_eq rfl) ?_ | refine EnvLe.cons (AV.le.undef _) ?_ | refine EnvLe.cons AV.le.unk ?_) (by repeat' first | exact AH.le.refl _ | assumption | (refine AH.le_put ?_ (by first | assumption | exact (AH.blk_put_ne _ _ (by assumption)).trans (by assumption) | exact AH.none_put (by assumption) | exact AH.none_put (AH.none_put (by assumption)) | (simp only [AH.blk_setTok, AH.tok_put] at *; first | assumption | exact AH.none_put (by assumption)))) | (refine AH.le_setTok ?_ (by first | assumption | exact (AH.blk_put_ne _ _ (by assumption)).trans (by assumption) | exact AH.none_put (by assumption) | exact AH.none_put (AH.none_put (by assumption)) | (simp only [AH.blk_setTok, AH.tok_put] at *; first | assumption | exact AH.none_put (by assumption)))) | (refine AH.le_putM ?_ (by first | assumption | exact (AH.mp_putM_ne _ _ (by assumption)).trans (by assumption) | (simp only [AH.mp_put, AH.mp_setTok] at *; assumption)))))
    · have e7 : rkI l (m + 1) = rkI l m := by rw [rkI, if_neg h7]
      have h7 : smH l ((m + 1 : Nat) : Int) l.length = false := by simpa using h7
      simp only [h7, F_ref_Known, g_ref_Known, go_sem, reduceIte, Nat.reduceEqDiff, Nat.reduceAdd, Nat.reduceMul, Nat.reduceSub, reduceCtorEq, Nat.reduceLeDiff, Nat.reduceLT, Int.reduceLT, Int.reduceLE, Int.reduceToNat, Int.reduceAdd, Int.reduceSub, Int.reduceNeg, Int.reduceMul, Int.reduceEq, ← Bool.decide_and, ← Bool.decide_or, ↓tq_n, ↓tq_e, ↓tq_r, ↓bq_n, ↓bq_e, ↓bq_r, ↓rq_n, ↓rq_r, ↓rq_e]
      refine ⟨by rw [inR64]; omega, m + 1, by omega, by omega, ?_⟩
      rw [e7]
      exact (GStep.forget (by repeat' first | exact EnvLe.nil _ | refine EnvLe.cons (AV.le.of_eq rfl) ?_ | refine EnvLe.cons (AV.le.undef _) ?_ | refine EnvLe.cons AV.le.unk ?_) (by repeat' first | exact AH.le.refl _ | assumption | (refine AH.le_put ?_ (by first | assumption | exact (AH.blk_put_ne _ _ (by assumption)).trans (by assumption) | exact AH.none_put (by assumption) | exact AH.none_put (AH.none_put (by assumption)) | (simp only [AH.blk_setTok, AH.tok_put] at *; first | assumption | exact AH.none_put (by assumption)))) | (refine AH.le_setTok ?_ (by first | assumption | exact (AH.blk_put_ne _ _ (by assumption)).trans (by assumption) | exact AH.none_put (by assumption) | exact AH.none_put (AH.none_put (by assumption)) | (simp only [AH.blk_setTok, AH.tok_put] at *; first | assumption | exact AH.none_put (by assumption)))) | (refine AH.le_putM ?_ (by first | assumption | exact (AH.mp_putM_ne _ _ (by assumption)).trans (by assumption) | (simp only [AH.mp_put, AH.mp_setTok] at *; assumption)))))
  have h5 : m = 99 := by omega
  subst h5
  have hc : ¬ ((99 + 1 : Nat) : Int) ≤ 99 := by omega
  simp only [hc, F_ref_Known, g_ref_Known, go_sem, reduceIte, Nat.reduceEqDiff, Nat.reduceAdd, Nat.reduceMul, Nat.reduceSub, reduceCtorEq, Nat.reduceLeDiff, Nat.reduceLT, Int.reduceLT, Int.reduceLE, Int.reduceToNat, Int.reduceAdd, Int.reduceSub, Int.reduceNeg, Int.reduceMul, Int.reduceEq, ← Bool.decide_and, ← Bool.decide_or, ↓tq_n, ↓tq_e, ↓tq_r, ↓bq_n, ↓bq_e, ↓bq_r, ↓rq_n, ↓rq_r, ↓rq_e]
  rw [h1]
  refine ret_le (AH.le_setTok (.refl _) ht) ?_
  exact AV.le.tupC (.cons AV.le.glU (.cons (AV.le.refl _) .nil))

theorem firstV_eq (l : List Hd) (k : Int) : ∃ a : Int, firstV l k = .tup [I a, I (havQ l k)] := by
  unfold firstV
  by_cases h : havQ l k = 0
  · rw [if_pos h, h]; exact ⟨_, rfl⟩
  · rw [if_neg h]; exact ⟨_, rfl⟩
theorem spreadV_eq (l : List Hd) (k : Int) : ∃ p : Int × Int, spreadV l k = .tup [.st [I p.1, I p.2], I (havQ l k)] := by
  unfold spreadV
  by_cases h : havQ l k = 0
  · rw [if_pos h, h]; exact ⟨sprV l k, rfl⟩
  · rw [if_neg h]; exact ⟨(0, 0), rfl⟩
theorem knownV_eq (l : List Hd) : ∃ n1 t1, knownV l = .tup [.sl n1 (knL l).length (i64s (knL l)) t1, I (chk l)] := by
  unfold knownV gl; exact ⟨_, _, rfl⟩
theorem r_law_BurialTypes (n1 : Bool) (l : List Hd) (u1 : Tail) (k : Int) (h : AH) : RCall Try.prog n_law_BurialTypes [.sl n1 l.length (hds l) u1, I k] h (.bool true) := by
  refine RCall.of hm cF_law_BurialTypes (by simp [g_law_BurialTypes]) fun hw h' hl => ?_
  simp only [F_law_BurialTypes, g_law_BurialTypes, go_sem, reduceIte, Nat.reduceEqDiff, Nat.reduceAdd, Nat.reduceMul, Nat.reduceSub, reduceCtorEq, Nat.reduceLeDiff, Nat.reduceLT, Int.reduceLT, Int.reduceLE, Int.reduceToNat, Int.reduceAdd, Int.reduceSub, Int.reduceNeg, Int.reduceMul, Int.reduceEq, ← Bool.decide_and, ← Bool.decide_or, ↓tq_n, ↓tq_e, ↓tq_r, ↓bq_n, ↓bq_e, ↓bq_r, ↓rq_n, ↓rq_r, ↓rq_e]
  refine CallG.mk (r_law_awake _) ?_
  simp only [F_law_BurialTypes, g_law_BurialTypes, go_sem, reduceIte, Nat.reduceEqDiff, Nat.reduceAdd, Nat.reduceMul, Nat.reduceSub, reduceCtorEq, Nat.reduceLeDiff, Nat.reduceLT, Int.reduceLT, Int.reduceLE, Int.reduceToNat, Int.reduceAdd, Int.reduceSub, Int.reduceNeg, Int.reduceMul, Int.reduceEq, ← Bool.decide_and, ← Bool.decide_or, ↓tq_n, ↓tq_e, ↓tq_r, ↓bq_n, ↓bq_e, ↓bq_r, ↓rq_n, ↓rq_r, ↓rq_e]
  refine CallG.mk (r_law_few n1 l u1 _) ?_
  by_cases k1 : FwL l
  case neg =>
    rw [decide_eq_false k1]
    simp only [F_law_BurialTypes, g_law_BurialTypes, go_sem, reduceIte, Nat.reduceEqDiff, Nat.reduceAdd, Nat.reduceMul, Nat.reduceSub, reduceCtorEq, Nat.reduceLeDiff, Nat.reduceLT, Int.reduceLT, Int.reduceLE, Int.reduceToNat, Int.reduceAdd, Int.reduceSub, Int.reduceNeg, Int.reduceMul, Int.reduceEq, ← Bool.decide_and, ← Bool.decide_or, ↓tq_n, ↓tq_e, ↓tq_r, ↓bq_n, ↓bq_e, ↓bq_r, ↓rq_n, ↓rq_r, ↓rq_e]
    refine CallG.mk (r_law_awake _) ?_
    simp only [F_law_BurialTypes, g_law_BurialTypes, go_sem, reduceIte, Nat.reduceEqDiff, Nat.reduceAdd, Nat.reduceMul, Nat.reduceSub, reduceCtorEq, Nat.reduceLeDiff, Nat.reduceLT, Int.reduceLT, Int.reduceLE, Int.reduceToNat, Int.reduceAdd, Int.reduceSub, Int.reduceNeg, Int.reduceMul, Int.reduceEq, ← Bool.decide_and, ← Bool.decide_or, ↓tq_n, ↓tq_e, ↓tq_r, ↓bq_n, ↓bq_e, ↓bq_r, ↓rq_n, ↓rq_r, ↓rq_e]
    exact ret_ok rfl
  rw [decide_eq_true k1]
  obtain ⟨m1, w1, e1⟩ := knownV_eq l
  obtain ⟨a, e2⟩ := firstV_eq l k
  obtain ⟨p, e3⟩ := spreadV_eq l k
  simp only [F_law_BurialTypes, g_law_BurialTypes, go_sem, reduceIte, Nat.reduceEqDiff, Nat.reduceAdd, Nat.reduceMul, Nat.reduceSub, reduceCtorEq, Nat.reduceLeDiff, Nat.reduceLT, Int.reduceLT, Int.reduceLE, Int.reduceToNat, Int.reduceAdd, Int.reduceSub, Int.reduceNeg, Int.reduceMul, Int.reduceEq, ← Bool.decide_and, ← Bool.decide_or, ↓tq_n, ↓tq_e, ↓tq_r, ↓bq_n, ↓bq_e, ↓bq_r, ↓rq_n, ↓rq_r, ↓rq_e]
  refine CallG.mk (r_burial_Known n1 l u1 _) ?_
  rw [e1]
  simp only [F_law_BurialTypes, g_law_BurialTypes, go_sem, reduceIte, Nat.reduceEqDiff, Nat.reduceAdd, Nat.reduceMul, Nat.reduceSub, reduceCtorEq, Nat.reduceLeDiff, Nat.reduceLT, Int.reduceLT, Int.reduceLE, Int.reduceToNat, Int.reduceAdd, Int.reduceSub, Int.reduceNeg, Int.reduceMul, Int.reduceEq, ← Bool.decide_and, ← Bool.decide_or, ↓tq_n, ↓tq_e, ↓tq_r, ↓bq_n, ↓bq_e, ↓bq_r, ↓rq_n, ↓rq_r, ↓rq_e]
  refine CallG.mk (r_ref_Known n1 l u1 _) ?_
  rw [e1]
  simp only [F_law_BurialTypes, g_law_BurialTypes, go_sem, reduceIte, Nat.reduceEqDiff, Nat.reduceAdd, Nat.reduceMul, Nat.reduceSub, reduceCtorEq, Nat.reduceLeDiff, Nat.reduceLT, Int.reduceLT, Int.reduceLE, Int.reduceToNat, Int.reduceAdd, Int.reduceSub, Int.reduceNeg, Int.reduceMul, Int.reduceEq, ← Bool.decide_and, ← Bool.decide_or, ↓tq_n, ↓tq_e, ↓tq_r, ↓bq_n, ↓bq_e, ↓bq_r, ↓rq_n, ↓rq_r, ↓rq_e]
  refine CallG.mk (r_burial_First n1 l u1 k _) ?_
  rw [e2]
  simp only [F_law_BurialTypes, g_law_BurialTypes, go_sem, reduceIte, Nat.reduceEqDiff, Nat.reduceAdd, Nat.reduceMul, Nat.reduceSub, reduceCtorEq, Nat.reduceLeDiff, Nat.reduceLT, Int.reduceLT, Int.reduceLE, Int.reduceToNat, Int.reduceAdd, Int.reduceSub, Int.reduceNeg, Int.reduceMul, Int.reduceEq, ← Bool.decide_and, ← Bool.decide_or, ↓tq_n, ↓tq_e, ↓tq_r, ↓bq_n, ↓bq_e, ↓bq_r, ↓rq_n, ↓rq_r, ↓rq_e]
  refine CallG.mk (r_ref_First n1 l u1 k _) ?_
  rw [e2]
  simp only [F_law_BurialTypes, g_law_BurialTypes, go_sem, reduceIte, Nat.reduceEqDiff, Nat.reduceAdd, Nat.reduceMul, Nat.reduceSub, reduceCtorEq, Nat.reduceLeDiff, Nat.reduceLT, Int.reduceLT, Int.reduceLE, Int.reduceToNat, Int.reduceAdd, Int.reduceSub, Int.reduceNeg, Int.reduceMul, Int.reduceEq, ← Bool.decide_and, ← Bool.decide_or, ↓tq_n, ↓tq_e, ↓tq_r, ↓bq_n, ↓bq_e, ↓bq_r, ↓rq_n, ↓rq_r, ↓rq_e]
  refine CallG.mk (r_burial_Spread n1 l u1 k _) ?_
  rw [e3]
  simp only [F_law_BurialTypes, g_law_BurialTypes, go_sem, reduceIte, Nat.reduceEqDiff, Nat.reduceAdd, Nat.reduceMul, Nat.reduceSub, reduceCtorEq, Nat.reduceLeDiff, Nat.reduceLT, Int.reduceLT, Int.reduceLE, Int.reduceToNat, Int.reduceAdd, Int.reduceSub, Int.reduceNeg, Int.reduceMul, Int.reduceEq, ← Bool.decide_and, ← Bool.decide_or, ↓tq_n, ↓tq_e, ↓tq_r, ↓bq_n, ↓bq_e, ↓bq_r, ↓rq_n, ↓rq_r, ↓rq_e]
  refine CallG.mk (r_ref_Spread n1 l u1 k _) ?_
  rw [e3]
  simp only [F_law_BurialTypes, g_law_BurialTypes, go_sem, reduceIte, Nat.reduceEqDiff, Nat.reduceAdd, Nat.reduceMul, Nat.reduceSub, reduceCtorEq, Nat.reduceLeDiff, Nat.reduceLT, Int.reduceLT, Int.reduceLE, Int.reduceToNat, Int.reduceAdd, Int.reduceSub, Int.reduceNeg, Int.reduceMul, Int.reduceEq, ← Bool.decide_and, ← Bool.decide_or, ↓tq_n, ↓tq_e, ↓tq_r, ↓bq_n, ↓bq_e, ↓bq_r, ↓rq_n, ↓rq_r, ↓rq_e]
  refine CallG.mk (r_base_Ints _ _ _ _ _ _ _) ?_
  rw [decide_eq_true (rfl : knL l = knL l)]
  simp only [eqCells, F_law_BurialTypes, g_law_BurialTypes, go_sem, reduceIte, Nat.reduceEqDiff, Nat.reduceAdd, Nat.reduceMul, Nat.reduceSub, reduceCtorEq, Nat.reduceLeDiff, Nat.reduceLT, Int.reduceLT, Int.reduceLE, Int.reduceToNat, Int.reduceAdd, Int.reduceSub, Int.reduceNeg, Int.reduceMul, Int.reduceEq, ← Bool.decide_and, ← Bool.decide_or, ↓tq_n, ↓tq_e, ↓tq_r, ↓bq_n, ↓bq_e, ↓bq_r, ↓rq_n, ↓rq_r, ↓rq_e]
  exact ret_ok (by simp)
end Go.Proofs.Ytnekkkjedmlloaa
namespace Go.Proofs.Ytnekkkjedmlloaa
open Go Go.Abs
set_option linter.unusedSimpArgs false
set_option linter.unusedVariables false
set_option maxRecDepth 20000

theorem r_base_Has (nl : Bool) (xs : List Int) (tl : Tail) (k : Int) (h : AH) : RCall Try.prog n_base_Has [.sl nl xs.length (i64s xs) tl, I k] h (.bool (decide (k ∈ xs))) := by
  refine RCall.of hm cF_base_Has (by simp [g_base_Has]) fun hw h' hl => ?_
  have hx := wf_len (hw _ (.head _))
  simp only [F_base_Has, g_base_Has, go_sem, reduceIte, Nat.reduceEqDiff, Nat.reduceAdd, Nat.reduceMul, Nat.reduceSub, reduceCtorEq, Nat.reduceLeDiff, Nat.reduceLT, Int.reduceLT, Int.reduceLE, Int.reduceToNat, Int.reduceAdd, Int.reduceSub, Int.reduceNeg, Int.reduceMul, Int.reduceEq, ← Bool.decide_and, ← Bool.decide_or, ↓tq_n, ↓tq_e, ↓tq_r, ↓bq_n, ↓bq_e, ↓bq_r, ↓rq_n, ↓rq_r, ↓rq_e]
  refine awp_loop (fun i : Nat => [(0, .sl nl xs.length (i64s xs) tl), (1, I k), (5, I i)]) (fun _ => h') (fun i => i ≤ xs.length ∧ ∀ j, j < i → xs.getD j 0 ≠ k) (fun i => xs.length - i) 0 ⟨Nat.zero_le _, fun j hj => absurd hj (Nat.not_lt_zero _)⟩ (GStep.forget (by repeat' first | exact EnvLe.nil _ | refine EnvLe.cons (AV.le.of_eq rfl) ?_ | refine EnvLe.cons (AV.le.undef _) ?_ | refine EnvLe.cons AV.le.unk ?_) (by repeat' first | exact AH.le.refl _ | assumption | (refine AH.le_put ?_ (by first | assumption | exact (AH.blk_put_ne _ _ (by assumption)).trans (by assumption) | exact AH.none_put (by assumption) | exact AH.none_put (AH.none_put (by assumption)) | (simp only [AH.blk_setTok, AH.tok_put] at *; first | assumption | exact AH.none_put (by assumption)))) | (refine AH.le_setTok ?_ (by first | assumption | exact (AH.blk_put_ne _ _ (by assumption)).trans (by assumption) | exact AH.none_put (by assumption) | exact AH.none_put (AH.none_put (by assumption)) | (simp only [AH.blk_setTok, AH.tok_put] at *; first | assumption | exact AH.none_put (by assumption)))) | (refine AH.le_putM ?_ (by first | assumption | exact (AH.mp_putM_ne _ _ (by assumption)).trans (by assumption) | (simp only [AH.mp_put, AH.mp_setTok] at *; assumption))))) fun i hi => .of_vg hm ?_
  obtain ⟨h1, h2⟩ := hi
  by_cases h3 : i < xs.length
  · have hc : (i : Int) < (xs.length : Int) := by omega
    simp only [hc, i64s_drop h3, F_base_Has, g_base_Has, go_sem, reduceIte, Nat.reduceEqDiff, Nat.reduceAdd, Nat.reduceMul, Nat.reduceSub, reduceCtorEq, Nat.reduceLeDiff, Nat.reduceLT, Int.reduceLT, Int.reduceLE, Int.reduceToNat, Int.reduceAdd, Int.reduceSub, Int.reduceNeg, Int.reduceMul, Int.reduceEq, ← Bool.decide_and, ← Bool.decide_or, ↓tq_n, ↓tq_e, ↓tq_r, ↓bq_n, ↓bq_e, ↓bq_r, ↓rq_n, ↓rq_r, ↓rq_e]
    refine ⟨fun h4 => ?_, fun h4 => ⟨by rw [inR64]; omega, i + 1, ⟨by omega, all_succ h2 h4⟩, by omega, (GStep.forget (by repeat' first | exact EnvLe.nil _ | refine EnvLe.cons (AV.le.of_eq rfl) ?_ | refine EnvLe.cons (AV.le.undef _) ?_ | refine EnvLe.cons AV.le.unk ?_) (by repeat' first | exact AH.le.refl _ | assumption | (refine AH.le_put ?_ (by first | assumption | exact (AH.blk_put_ne _ _ (by assumption)).trans (by assumption) | exact AH.none_put (by assumption) | exact AH.none_put (AH.none_put (by assumption)) | (simp only [AH.blk_setTok, AH.tok_put] at *; first | assumption | exact AH.none_put (by assumption)))) | (refine AH.le_setTok ?_ (by first | assumption | exact (AH.blk_put_ne _ _ (by assumption)).trans (by assumption) | exact AH.none_put (by assumption) | exact AH.none_put (AH.none_put (by assumption)) | (simp only [AH.blk_setTok, AH.tok_put] at *; first | assumption | exact AH.none_put (by assumption)))) | (refine AH.le_putM ?_ (by first | assumption | exact (AH.mp_putM_ne _ _ (by assumption)).trans (by assumption) | (simp only [AH.mp_put, AH.mp_setTok] at *; assumption)))))⟩⟩
    have : k ∈ xs := by rw [← h4]; exact mem_getD h3
    exact ret_ok (by simp [this])
  · have h3 : i = xs.length := by omega
    subst h3
    simp only [F_base_Has, g_base_Has, go_sem, reduceIte, Nat.reduceEqDiff, Nat.reduceAdd, Nat.reduceMul, Nat.reduceSub, reduceCtorEq, Nat.reduceLeDiff, Nat.reduceLT, Int.reduceLT, Int.reduceLE, Int.reduceToNat, Int.reduceAdd, Int.reduceSub, Int.reduceNeg, Int.reduceMul, Int.reduceEq, ← Bool.decide_and, ← Bool.decide_or, ↓tq_n, ↓tq_e, ↓tq_r, ↓bq_n, ↓bq_e, ↓bq_r, ↓rq_n, ↓rq_r, ↓rq_e]
    have : k ∉ xs := fun hh => by
      obtain ⟨j, a, b⟩ := List.getElem_of_mem hh
      exact h2 j a (by simp [List.getD, a, b])
    exact ret_ok (by simp [this])
theorem havI_asc (l : List Hd) (k : Int) : ∀ n, (havI l k n).Pairwise (· < ·) := by
  intro n
  induction n with
  | zero => exact .nil
  | succ n ih =>
    unfold havI
    split
    · refine List.pairwise_append.2 ⟨ih, List.pairwise_singleton _ _, fun a ha b hb => ?_⟩
      rw [List.mem_singleton] at hb
      have := (mem_havI.1 ha).1
      omega
    · exact ih
theorem mnL_first (c : Nat → Int) : ∀ (xs : List Nat), xs ≠ [] → xs.Pairwise (· < ·) → ∃ m, mnL c xs = some m ∧ m ∈ xs ∧ ∀ x ∈ xs, c m < c x ∨ (c m = c x ∧ m ≤ x) := by
  refine rev_ind (fun h => absurd rfl h) fun xs x ih _ hp => ?_
  rw [mnL_snoc]
  obtain ⟨p1, _, p3⟩ := List.pairwise_append.1 hp
  by_cases h0 : xs = []
  · subst h0; exact ⟨x, rfl, by simp, fun z hz => by simp at hz; subst hz; exact .inr ⟨rfl, Nat.le_refl _⟩⟩
  · obtain ⟨m, m1, m2, m3⟩ := ih h0 p1
    rw [m1]
    simp only [mnS]
    by_cases hc : c x < c m
    · rw [if_pos hc]
      refine ⟨x, rfl, by simp, fun z hz => ?_⟩
      rcases List.mem_append.1 hz with hz | hz
      · have := m3 z hz; omega
      · simp at hz; subst hz; exact .inr ⟨rfl, Nat.le_refl _⟩
    · rw [if_neg hc]
      refine ⟨m, rfl, by simp [m2], fun z hz => ?_⟩
      rcases List.mem_append.1 hz with hz | hz
      · exact m3 z hz
      · simp at hz; subst hz
        have := p3 m m2 z (by simp)
        omega
/-- Whether one of the first i hoards with a type has the first, or the last, year of a range. -/
def frB (l : List Hd) (k y : Int) : Nat → Bool
  | 0 => false
  | i + 1 => if numI (l.getD i dH) k = 0 then frB l k y i else frB l k y i || decide ((l.getD i dH).cl.1 = y)
def toB (l : List Hd) (k y : Int) : Nat → Bool
  | 0 => false
  | i + 1 => if numI (l.getD i dH) k = 0 then toB l k y i else toB l k y i || decide ((l.getD i dH).cl.2 = y)
theorem frB_true {l : List Hd} {k y : Int} {x : Nat} : ∀ {n : Nat}, x < n → numI (l.getD x dH) k ≠ 0 → (l.getD x dH).cl.1 = y → frB l k y n = true := by
  intro n
  induction n with
  | zero => intro h; omega
  | succ n ih =>
    intro h h1 h2
    unfold frB
    by_cases hx : x = n
    · subst hx; rw [if_neg h1, h2]; simp
    · have := ih (by omega) h1 h2
      split
      · exact this
      · rw [this]; rfl
theorem toB_true {l : List Hd} {k y : Int} {x : Nat} : ∀ {n : Nat}, x < n → numI (l.getD x dH) k ≠ 0 → (l.getD x dH).cl.2 = y → toB l k y n = true := by
  intro n
  induction n with
  | zero => intro h; omega
  | succ n ih =>
    intro h h1 h2
    unfold toB
    by_cases hx : x = n
    · subst hx; rw [if_neg h1, h2]; simp
    · have := ih (by omega) h1 h2
      split
      · exact this
      · rw [this]; rfl
theorem num_pos {l : List Hd} (hc : chk l = 0) {i : Nat} (hi : i < l.length) {k : Int} (h : numI (l.getD i dH) k ≠ 0) : 0 < numI (l.getD i dH) k := by
  obtain ⟨l8, hvl⟩ := chk_vls hc
  have hv := (hvl i hi).1
  obtain ⟨a, b⟩ := fndL_sum hv k
  have := (b _ (Nat.le_refl _)).1
  omega

set_option maxHeartbeats 2000000 in
theorem r_law_BurialSpreads (n1 : Bool) (l : List Hd) (u1 : Tail) (k : Int) (h : AH) : RCall Try.prog n_law_BurialSpreads [.sl n1 l.length (hds l) u1, I k] h (.bool true) := by
  refine RCall.of hm cF_law_BurialSpreads (by simp [g_law_BurialSpreads]) fun hw h' hl => ?_
  simp only [F_law_BurialSpreads, g_law_BurialSpreads, go_sem, reduceIte, Nat.reduceEqDiff, Nat.reduceAdd, Nat.reduceMul, Nat.reduceSub, reduceCtorEq, Nat.reduceLeDiff, Nat.reduceLT, Int.reduceLT, Int.reduceLE, Int.reduceToNat, Int.reduceAdd, Int.reduceSub, Int.reduceNeg, Int.reduceMul, Int.reduceEq, ← Bool.decide_and, ← Bool.decide_or, ↓tq_n, ↓tq_e, ↓tq_r, ↓bq_n, ↓bq_e, ↓bq_r, ↓rq_n, ↓rq_r, ↓rq_e]
  refine CallG.mk (r_law_awake _) ?_
  simp only [F_law_BurialSpreads, g_law_BurialSpreads, go_sem, reduceIte, Nat.reduceEqDiff, Nat.reduceAdd, Nat.reduceMul, Nat.reduceSub, reduceCtorEq, Nat.reduceLeDiff, Nat.reduceLT, Int.reduceLT, Int.reduceLE, Int.reduceToNat, Int.reduceAdd, Int.reduceSub, Int.reduceNeg, Int.reduceMul, Int.reduceEq, ← Bool.decide_and, ← Bool.decide_or, ↓tq_n, ↓tq_e, ↓tq_r, ↓bq_n, ↓bq_e, ↓bq_r, ↓rq_n, ↓rq_r, ↓rq_e]
  refine CallG.mk (r_law_few n1 l u1 _) ?_
  by_cases k1 : FwL l
  case neg =>
    rw [decide_eq_false k1]
    simp only [F_law_BurialSpreads, g_law_BurialSpreads, go_sem, reduceIte, Nat.reduceEqDiff, Nat.reduceAdd, Nat.reduceMul, Nat.reduceSub, reduceCtorEq, Nat.reduceLeDiff, Nat.reduceLT, Int.reduceLT, Int.reduceLE, Int.reduceToNat, Int.reduceAdd, Int.reduceSub, Int.reduceNeg, Int.reduceMul, Int.reduceEq, ← Bool.decide_and, ← Bool.decide_or, ↓tq_n, ↓tq_e, ↓tq_r, ↓bq_n, ↓bq_e, ↓bq_r, ↓rq_n, ↓rq_r, ↓rq_e]
    refine CallG.mk (r_law_awake _) ?_
    simp only [F_law_BurialSpreads, g_law_BurialSpreads, go_sem, reduceIte, Nat.reduceEqDiff, Nat.reduceAdd, Nat.reduceMul, Nat.reduceSub, reduceCtorEq, Nat.reduceLeDiff, Nat.reduceLT, Int.reduceLT, Int.reduceLE, Int.reduceToNat, Int.reduceAdd, Int.reduceSub, Int.reduceNeg, Int.reduceMul, Int.reduceEq, ← Bool.decide_and, ← Bool.decide_or, ↓tq_n, ↓tq_e, ↓tq_r, ↓bq_n, ↓bq_e, ↓bq_r, ↓rq_n, ↓rq_r, ↓rq_e]
    exact ret_ok rfl
  rw [decide_eq_true k1]
  obtain ⟨m1, w1, e1⟩ := knownV_eq l
  by_cases hq : havQ l k = 0
  case neg =>
    obtain ⟨a, e2⟩ := firstV_eq l k
    obtain ⟨p, e3⟩ := spreadV_eq l k
    simp only [F_law_BurialSpreads, g_law_BurialSpreads, go_sem, reduceIte, Nat.reduceEqDiff, Nat.reduceAdd, Nat.reduceMul, Nat.reduceSub, reduceCtorEq, Nat.reduceLeDiff, Nat.reduceLT, Int.reduceLT, Int.reduceLE, Int.reduceToNat, Int.reduceAdd, Int.reduceSub, Int.reduceNeg, Int.reduceMul, Int.reduceEq, ← Bool.decide_and, ← Bool.decide_or, ↓tq_n, ↓tq_e, ↓tq_r, ↓bq_n, ↓bq_e, ↓bq_r, ↓rq_n, ↓rq_r, ↓rq_e]
    refine CallG.mk (r_burial_First n1 l u1 k _) ?_
    rw [e2]
    simp only [F_law_BurialSpreads, g_law_BurialSpreads, go_sem, reduceIte, Nat.reduceEqDiff, Nat.reduceAdd, Nat.reduceMul, Nat.reduceSub, reduceCtorEq, Nat.reduceLeDiff, Nat.reduceLT, Int.reduceLT, Int.reduceLE, Int.reduceToNat, Int.reduceAdd, Int.reduceSub, Int.reduceNeg, Int.reduceMul, Int.reduceEq, ← Bool.decide_and, ← Bool.decide_or, ↓tq_n, ↓tq_e, ↓tq_r, ↓bq_n, ↓bq_e, ↓bq_r, ↓rq_n, ↓rq_r, ↓rq_e]
    refine CallG.mk (r_burial_Spread n1 l u1 k _) ?_
    rw [e3]
    simp only [F_law_BurialSpreads, g_law_BurialSpreads, go_sem, reduceIte, Nat.reduceEqDiff, Nat.reduceAdd, Nat.reduceMul, Nat.reduceSub, reduceCtorEq, Nat.reduceLeDiff, Nat.reduceLT, Int.reduceLT, Int.reduceLE, Int.reduceToNat, Int.reduceAdd, Int.reduceSub, Int.reduceNeg, Int.reduceMul, Int.reduceEq, ← Bool.decide_and, ← Bool.decide_or, ↓tq_n, ↓tq_e, ↓tq_r, ↓bq_n, ↓bq_e, ↓bq_r, ↓rq_n, ↓rq_r, ↓rq_e]
    refine CallG.mk (r_burial_Known n1 l u1 _) ?_
    rw [e1]
    by_cases hc : chk l = 0
    case neg =>
      simp only [hq, hc, F_law_BurialSpreads, g_law_BurialSpreads, go_sem, reduceIte, Nat.reduceEqDiff, Nat.reduceAdd, Nat.reduceMul, Nat.reduceSub, reduceCtorEq, Nat.reduceLeDiff, Nat.reduceLT, Int.reduceLT, Int.reduceLE, Int.reduceToNat, Int.reduceAdd, Int.reduceSub, Int.reduceNeg, Int.reduceMul, Int.reduceEq, ← Bool.decide_and, ← Bool.decide_or, ↓tq_n, ↓tq_e, ↓tq_r, ↓bq_n, ↓bq_e, ↓bq_r, ↓rq_n, ↓rq_r, ↓rq_e]
      exact ret_ok rfl
    have h7 : havQ l k = 7 := by
      unfold havQ at hq ⊢
      rw [if_neg (by simp [hc])] at hq ⊢
      split
      · rfl
      · rename_i hh; rw [if_neg hh] at hq; exact absurd rfl hq
    have hnk : k ∉ knL l := fun hh => by
      obtain ⟨i, a1, a2⟩ := (mem_knL hc).1 hh
      have hm2 : i ∈ hav l k := mem_havI.2 ⟨a1, a2⟩
      have : hav l k ≠ [] := fun h0 => by rw [h0] at hm2; simp at hm2
      unfold havQ at h7
      rw [if_neg (by simp [hc]), if_neg this] at h7
      cases h7
    rw [h7, hc]
    simp only [F_law_BurialSpreads, g_law_BurialSpreads, go_sem, reduceIte, Nat.reduceEqDiff, Nat.reduceAdd, Nat.reduceMul, Nat.reduceSub, reduceCtorEq, Nat.reduceLeDiff, Nat.reduceLT, Int.reduceLT, Int.reduceLE, Int.reduceToNat, Int.reduceAdd, Int.reduceSub, Int.reduceNeg, Int.reduceMul, Int.reduceEq, ← Bool.decide_and, ← Bool.decide_or, ↓tq_n, ↓tq_e, ↓tq_r, ↓bq_n, ↓bq_e, ↓bq_r, ↓rq_n, ↓rq_r, ↓rq_e]
    refine CallG.mk (r_base_Has m1 (knL l) w1 k _) ?_
    rw [decide_eq_false hnk]
    simp only [F_law_BurialSpreads, g_law_BurialSpreads, go_sem, reduceIte, Nat.reduceEqDiff, Nat.reduceAdd, Nat.reduceMul, Nat.reduceSub, reduceCtorEq, Nat.reduceLeDiff, Nat.reduceLT, Int.reduceLT, Int.reduceLE, Int.reduceToNat, Int.reduceAdd, Int.reduceSub, Int.reduceNeg, Int.reduceMul, Int.reduceEq, ← Bool.decide_and, ← Bool.decide_or, ↓tq_n, ↓tq_e, ↓tq_r, ↓bq_n, ↓bq_e, ↓bq_r, ↓rq_n, ↓rq_r, ↓rq_e]
    exact ret_ok rfl
  obtain ⟨hc, hne⟩ := havQ_ok hq
  obtain ⟨l8, hvl⟩ := chk_vls hc
  obtain ⟨M, f1, f2, f3⟩ := mnL_first (clT l) (hav l k) hne (havI_asc l k _)
  have hMl := (mem_havI.1 f2).1
  have hMn := (mem_havI.1 f2).2
  have e2 : firstV l k = .tup [I M, I 0] := by unfold firstV; rw [if_pos hq, f1]; rfl
  have e3 : spreadV l k = .tup [.st [I (sprV l k).1, I (sprV l k).2], I 0] := by unfold spreadV; rw [if_pos hq]
  have hyv : Yv (sprV l k) := by
    unfold sprV
    have h0 : (hav l k).getD 0 0 ∈ hav l k := mem_getD (by rcases Nat.eq_zero_or_pos (hav l k).length with h0 | h0; exact absurd (List.eq_nil_of_length_eq_zero h0) hne; exact h0)
    exact sprd_yv (hav_yv hc _ h0).2 _ fun x hx => (hav_yv hc x hx).2
  obtain ⟨s1, s2, s3, s4⟩ := sprd_spec l (l.getD ((hav l k).getD 0 0) dH).cl (hav l k)
  obtain ⟨y, hy⟩ : ∃ y, y = sprV l k := ⟨_, rfl⟩
  have h0m : (hav l k).getD 0 0 ∈ hav l k := mem_getD (by rcases Nat.eq_zero_or_pos (hav l k).length with h0 | h0; exact absurd (List.eq_nil_of_length_eq_zero h0) hne; exact h0)
  have s2' : ∀ x ∈ hav l k, y.1 ≤ (l.getD x dH).cl.1 ∧ (l.getD x dH).cl.2 ≤ y.2 := fun x hx => by rw [hy]; exact s2 x hx
  have t1 : ∃ x ∈ hav l k, (l.getD x dH).cl.1 = y.1 := by
    rw [hy]
    rcases s3 with s3 | ⟨x, a, b⟩
    · exact ⟨_, h0m, s3.symm⟩
    · exact ⟨x, a, b.symm⟩
  have t2 : ∃ x ∈ hav l k, (l.getD x dH).cl.2 = y.2 := by
    rw [hy]
    rcases s4 with s4 | ⟨x, a, b⟩
    · exact ⟨_, h0m, s4.symm⟩
    · exact ⟨x, a, b.symm⟩
  rw [← hy] at e3 hyv
  have hwq : winQ l y = 0 := by unfold winQ; rw [if_neg (by simp [hc]), if_pos hyv]
  obtain ⟨m2, w2, e4⟩ := winV_eq l y
  have hwl : winL l y = winI l y l.length := by unfold winL; rw [if_pos hwq]
  have hkn : k ∈ knL l := (mem_knL hc).2 ⟨M, hMl, hMn⟩
  rw [hc] at e1
  rw [hwq] at e4
  simp only [F_law_BurialSpreads, g_law_BurialSpreads, go_sem, reduceIte, Nat.reduceEqDiff, Nat.reduceAdd, Nat.reduceMul, Nat.reduceSub, reduceCtorEq, Nat.reduceLeDiff, Nat.reduceLT, Int.reduceLT, Int.reduceLE, Int.reduceToNat, Int.reduceAdd, Int.reduceSub, Int.reduceNeg, Int.reduceMul, Int.reduceEq, ← Bool.decide_and, ← Bool.decide_or, ↓tq_n, ↓tq_e, ↓tq_r, ↓bq_n, ↓bq_e, ↓bq_r, ↓rq_n, ↓rq_r, ↓rq_e]
  refine CallG.mk (r_burial_First n1 l u1 k _) ?_
  rw [e2]
  simp only [F_law_BurialSpreads, g_law_BurialSpreads, go_sem, reduceIte, Nat.reduceEqDiff, Nat.reduceAdd, Nat.reduceMul, Nat.reduceSub, reduceCtorEq, Nat.reduceLeDiff, Nat.reduceLT, Int.reduceLT, Int.reduceLE, Int.reduceToNat, Int.reduceAdd, Int.reduceSub, Int.reduceNeg, Int.reduceMul, Int.reduceEq, ← Bool.decide_and, ← Bool.decide_or, ↓tq_n, ↓tq_e, ↓tq_r, ↓bq_n, ↓bq_e, ↓bq_r, ↓rq_n, ↓rq_r, ↓rq_e]
  refine CallG.mk (r_burial_Spread n1 l u1 k _) ?_
  rw [e3]
  simp only [F_law_BurialSpreads, g_law_BurialSpreads, go_sem, reduceIte, Nat.reduceEqDiff, Nat.reduceAdd, Nat.reduceMul, Nat.reduceSub, reduceCtorEq, Nat.reduceLeDiff, Nat.reduceLT, Int.reduceLT, Int.reduceLE, Int.reduceToNat, Int.reduceAdd, Int.reduceSub, Int.reduceNeg, Int.reduceMul, Int.reduceEq, ← Bool.decide_and, ← Bool.decide_or, ↓tq_n, ↓tq_e, ↓tq_r, ↓bq_n, ↓bq_e, ↓bq_r, ↓rq_n, ↓rq_r, ↓rq_e]
  refine CallG.mk (r_burial_Known n1 l u1 _) ?_
  rw [e1]
  simp only [F_law_BurialSpreads, g_law_BurialSpreads, go_sem, reduceIte, Nat.reduceEqDiff, Nat.reduceAdd, Nat.reduceMul, Nat.reduceSub, reduceCtorEq, Nat.reduceLeDiff, Nat.reduceLT, Int.reduceLT, Int.reduceLE, Int.reduceToNat, Int.reduceAdd, Int.reduceSub, Int.reduceNeg, Int.reduceMul, Int.reduceEq, ← Bool.decide_and, ← Bool.decide_or, ↓tq_n, ↓tq_e, ↓tq_r, ↓bq_n, ↓bq_e, ↓bq_r, ↓rq_n, ↓rq_r, ↓rq_e]
  refine CallG.mk (r_burial_Within n1 l u1 y _) ?_
  rw [e4]
  simp only [F_law_BurialSpreads, g_law_BurialSpreads, go_sem, reduceIte, Nat.reduceEqDiff, Nat.reduceAdd, Nat.reduceMul, Nat.reduceSub, reduceCtorEq, Nat.reduceLeDiff, Nat.reduceLT, Int.reduceLT, Int.reduceLE, Int.reduceToNat, Int.reduceAdd, Int.reduceSub, Int.reduceNeg, Int.reduceMul, Int.reduceEq, ← Bool.decide_and, ← Bool.decide_or, ↓tq_n, ↓tq_e, ↓tq_r, ↓bq_n, ↓bq_e, ↓bq_r, ↓rq_n, ↓rq_r, ↓rq_e]
  refine CallG.mk (r_base_Has m1 (knL l) w1 k _) ?_
  rw [decide_eq_true hkn]
  simp only [F_law_BurialSpreads, g_law_BurialSpreads, go_sem, reduceIte, Nat.reduceEqDiff, Nat.reduceAdd, Nat.reduceMul, Nat.reduceSub, reduceCtorEq, Nat.reduceLeDiff, Nat.reduceLT, Int.reduceLT, Int.reduceLE, Int.reduceToNat, Int.reduceAdd, Int.reduceSub, Int.reduceNeg, Int.reduceMul, Int.reduceEq, ← Bool.decide_and, ← Bool.decide_or, ↓tq_n, ↓tq_e, ↓tq_r, ↓bq_n, ↓bq_e, ↓bq_r, ↓rq_n, ↓rq_r, ↓rq_e]
  refine ⟨by rw [inR64]; omega, ?_⟩
  refine CallG.mk (r_base_In (M : Int) 0 ((l.length : Int) - 1) _) ?_
  rw [decide_eq_true (by omega)]
  have hMc : (M : Int) < (l.length : Int) := by omega
  have hMne : ¬ numI (l.getD M dH) k = 0 := by omega
  simp only [hMc, hds_drop hMl, F_law_BurialSpreads, g_law_BurialSpreads, go_sem, reduceIte, Nat.reduceEqDiff, Nat.reduceAdd, Nat.reduceMul, Nat.reduceSub, reduceCtorEq, Nat.reduceLeDiff, Nat.reduceLT, Int.reduceLT, Int.reduceLE, Int.reduceToNat, Int.reduceAdd, Int.reduceSub, Int.reduceNeg, Int.reduceMul, Int.reduceEq, ← Bool.decide_and, ← Bool.decide_or, ↓tq_n, ↓tq_e, ↓tq_r, ↓bq_n, ↓bq_e, ↓bq_r, ↓rq_n, ↓rq_r, ↓rq_e]
  refine CallG.mk (r_hoard_Number (l.getD M dH) k _) ?_
  simp only [hMne, F_law_BurialSpreads, g_law_BurialSpreads, go_sem, reduceIte, Nat.reduceEqDiff, Nat.reduceAdd, Nat.reduceMul, Nat.reduceSub, reduceCtorEq, Nat.reduceLeDiff, Nat.reduceLT, Int.reduceLT, Int.reduceLE, Int.reduceToNat, Int.reduceAdd, Int.reduceSub, Int.reduceNeg, Int.reduceMul, Int.reduceEq, ← Bool.decide_and, ← Bool.decide_or, ↓tq_n, ↓tq_e, ↓tq_r, ↓bq_n, ↓bq_e, ↓bq_r, ↓rq_n, ↓rq_r, ↓rq_e]
  refine awp_loop (fun i : Nat => [(0, .sl n1 l.length (hds l) u1), (1, I k), (5, I M), (7, .sptr [I y.1, I y.2]), (11, .sl m2 (nats (winL l y)).length (i64s (nats (winL l y))) w2), (13, .bool (frB l k y.1 i)), (14, .bool (toB l k y.2 i)), (15, I i)]) (fun _ => h') (fun i => i ≤ l.length) (fun i => l.length - i) 0 (Nat.zero_le _) (GStep.forget (by repeat' first | exact EnvLe.nil _ | refine EnvLe.cons (AV.le.of_eq rfl) ?_ | refine EnvLe.cons (AV.le.undef _) ?_ | refine EnvLe.cons AV.le.unk ?_) (by repeat' first | exact AH.le.refl _ | assumption | (refine AH.le_put ?_ (by first | assumption | exact (AH.blk_put_ne _ _ (by assumption)).trans (by assumption) | exact AH.none_put (by assumption) | exact AH.none_put (AH.none_put (by assumption)) | (simp only [AH.blk_setTok, AH.tok_put] at *; first | assumption | exact AH.none_put (by assumption)))) | (refine AH.le_setTok ?_ (by first | assumption | exact (AH.blk_put_ne _ _ (by assumption)).trans (by assumption) | exact AH.none_put (by assumption) | exact AH.none_put (AH.none_put (by assumption)) | (simp only [AH.blk_setTok, AH.tok_put] at *; first | assumption | exact AH.none_put (by assumption)))) | (refine AH.le_putM ?_ (by first | assumption | exact (AH.mp_putM_ne _ _ (by assumption)).trans (by assumption) | (simp only [AH.mp_put, AH.mp_setTok] at *; assumption))))) fun i hi => .of_vg hm ?_
  by_cases h5 : i < l.length
  · have hci : (i : Int) < (l.length : Int) := by omega
    simp only [hci, hds_drop h5, F_law_BurialSpreads, g_law_BurialSpreads, go_sem, reduceIte, Nat.reduceEqDiff, Nat.reduceAdd, Nat.reduceMul, Nat.reduceSub, reduceCtorEq, Nat.reduceLeDiff, Nat.reduceLT, Int.reduceLT, Int.reduceLE, Int.reduceToNat, Int.reduceAdd, Int.reduceSub, Int.reduceNeg, Int.reduceMul, Int.reduceEq, ← Bool.decide_and, ← Bool.decide_or, ↓tq_n, ↓tq_e, ↓tq_r, ↓bq_n, ↓bq_e, ↓bq_r, ↓rq_n, ↓rq_r, ↓rq_e]
    refine CallG.mk (r_hoard_Number (l.getD i dH) k _) ?_
    by_cases h6 : numI (l.getD i dH) k = 0
    · have e6 : frB l k y.1 (i + 1) = frB l k y.1 i := by rw [frB, if_pos h6]
      have e7 : toB l k y.2 (i + 1) = toB l k y.2 i := by rw [toB, if_pos h6]
      simp only [h6, F_law_BurialSpreads, g_law_BurialSpreads, go_sem, reduceIte, Nat.reduceEqDiff, Nat.reduceAdd, Nat.reduceMul, Nat.reduceSub, reduceCtorEq, Nat.reduceLeDiff, Nat.reduceLT, Int.reduceLT, Int.reduceLE, Int.reduceToNat, Int.reduceAdd, Int.reduceSub, Int.reduceNeg, Int.reduceMul, Int.reduceEq, ← Bool.decide_and, ← Bool.decide_or, ↓tq_n, ↓tq_e, ↓tq_r, ↓bq_n, ↓bq_e, ↓bq_r, ↓rq_n, ↓rq_r, ↓rq_e]
      refine ⟨by rw [inR64]; omega, i + 1, by omega, by omega, ?_⟩
      rw [e6, e7]
      exact (GStep.forget (by repeat' first | exact EnvLe.nil _ | refine EnvLe.cons (AV.le.of_eq rfl) ?_ | refine EnvLe.cons (AV.le.undef _) ?_ | refine EnvLe.cons AV.le.unk ?_) (by repeat' first | exact AH.le.refl _ | assumption | (refine AH.le_put ?_ (by first | assumption | exact (AH.blk_put_ne _ _ (by assumption)).trans (by assumption) | exact AH.none_put (by assumption) | exact AH.none_put (AH.none_put (by assumption)) | (simp only [AH.blk_setTok, AH.tok_put] at *; first | assumption | exact AH.none_put (by assumption)))) | (refine AH.le_setTok ?_ (by first | assumption | exact (AH.blk_put_ne _ _ (by assumption)).trans (by assumption) | exact AH.none_put (by assumption) | exact AH.none_put (AH.none_put (by assumption)) | (simp only [AH.blk_setTok, AH.tok_put] at *; first | assumption | exact AH.none_put (by assumption)))) | (refine AH.le_putM ?_ (by first | assumption | exact (AH.mp_putM_ne _ _ (by assumption)).trans (by assumption) | (simp only [AH.mp_put, AH.mp_setTok] at *; assumption)))))
    have hin : i ∈ hav l k := mem_havI.2 ⟨h5, num_pos hc h5 h6⟩
    have hiw : (i : Int) ∈ nats (winL l y) := by
      rw [hwl]
      exact List.mem_map.2 ⟨i, mem_winI.2 ⟨h5, s2' i hin⟩, rfl⟩
    have hf3 := f3 i hin
    unfold clT at hf3
    have c1 : ¬ (l.getD i dH).cl.2 < (l.getD M dH).cl.2 := by omega
    have e6 : frB l k y.1 (i + 1) = (frB l k y.1 i || decide ((l.getD i dH).cl.1 = y.1)) := by rw [frB, if_neg h6]
    have e7 : toB l k y.2 (i + 1) = (toB l k y.2 i || decide ((l.getD i dH).cl.2 = y.2)) := by rw [toB, if_neg h6]
    simp only [h6, F_law_BurialSpreads, g_law_BurialSpreads, go_sem, reduceIte, Nat.reduceEqDiff, Nat.reduceAdd, Nat.reduceMul, Nat.reduceSub, reduceCtorEq, Nat.reduceLeDiff, Nat.reduceLT, Int.reduceLT, Int.reduceLE, Int.reduceToNat, Int.reduceAdd, Int.reduceSub, Int.reduceNeg, Int.reduceMul, Int.reduceEq, ← Bool.decide_and, ← Bool.decide_or, ↓tq_n, ↓tq_e, ↓tq_r, ↓bq_n, ↓bq_e, ↓bq_r, ↓rq_n, ↓rq_r, ↓rq_e]
    refine CallG.mk (r_base_Has m2 (nats (winL l y)) w2 i _) ?_
    rw [decide_eq_true hiw]
    by_cases tie : (l.getD i dH).cl.2 = (l.getD M dH).cl.2
    · have tie' : decide ((l.getD i dH).cl.2 = (l.getD M dH).cl.2) = true := decide_eq_true tie
      have c2 : ¬ (i : Int) < (M : Int) := by omega
      cases hfr : frB l k y.1 i with
      | true =>
        cases hto : toB l k y.2 i with
        | true =>
          simp only [hci, hMc, hds_drop h5, hds_drop hMl, c1, tie', c2, F_law_BurialSpreads, g_law_BurialSpreads, go_sem, reduceIte, Nat.reduceEqDiff, Nat.reduceAdd, Nat.reduceMul, Nat.reduceSub, reduceCtorEq, Nat.reduceLeDiff, Nat.reduceLT, Int.reduceLT, Int.reduceLE, Int.reduceToNat, Int.reduceAdd, Int.reduceSub, Int.reduceNeg, Int.reduceMul, Int.reduceEq, ← Bool.decide_and, ← Bool.decide_or, ↓tq_n, ↓tq_e, ↓tq_r, ↓bq_n, ↓bq_e, ↓bq_r, ↓rq_n, ↓rq_r, ↓rq_e]
          refine ⟨by rw [inR64]; omega, i + 1, by omega, by omega, ?_⟩
          rw [e6, e7, hfr, hto, Bool.true_or, Bool.true_or]
          exact (GStep.forget (by repeat' first | exact EnvLe.nil _ | refine EnvLe.cons (AV.le.of_eq rfl) ?_ | refine EnvLe.cons (AV.le.undef _) ?_ | refine EnvLe.cons AV.le.unk ?_) (by repeat' first | exact AH.le.refl _ | assumption | (refine AH.le_put ?_ (by first | assumption | exact (AH.blk_put_ne _ _ (by assumption)).trans (by assumption) | exact AH.none_put (by assumption) | exact AH.none_put (AH.none_put (by assumption)) | (simp only [AH.blk_setTok, AH.tok_put] at *; first | assumption | exact AH.none_put (by assumption)))) | (refine AH.le_setTok ?_ (by first | assumption | exact (AH.blk_put_ne _ _ (by assumption)).trans (by assumption) | exact AH.none_put (by assumption) | exact AH.none_put (AH.none_put (by assumption)) | (simp only [AH.blk_setTok, AH.tok_put] at *; first | assumption | exact AH.none_put (by assumption)))) | (refine AH.le_putM ?_ (by first | assumption | exact (AH.mp_putM_ne _ _ (by assumption)).trans (by assumption) | (simp only [AH.mp_put, AH.mp_setTok] at *; assumption)))))
        | false =>
          simp only [hci, hMc, hds_drop h5, hds_drop hMl, c1, tie', c2, F_law_BurialSpreads, g_law_BurialSpreads, go_sem, reduceIte, Nat.reduceEqDiff, Nat.reduceAdd, Nat.reduceMul, Nat.reduceSub, reduceCtorEq, Nat.reduceLeDiff, Nat.reduceLT, Int.reduceLT, Int.reduceLE, Int.reduceToNat, Int.reduceAdd, Int.reduceSub, Int.reduceNeg, Int.reduceMul, Int.reduceEq, ← Bool.decide_and, ← Bool.decide_or, ↓tq_n, ↓tq_e, ↓tq_r, ↓bq_n, ↓bq_e, ↓bq_r, ↓rq_n, ↓rq_r, ↓rq_e]
          refine ⟨by rw [inR64]; omega, i + 1, by omega, by omega, ?_⟩
          rw [e6, e7, hfr, hto, Bool.true_or, Bool.false_or]
          exact (GStep.forget (by repeat' first | exact EnvLe.nil _ | refine EnvLe.cons (AV.le.of_eq rfl) ?_ | refine EnvLe.cons (AV.le.undef _) ?_ | refine EnvLe.cons AV.le.unk ?_) (by repeat' first | exact AH.le.refl _ | assumption | (refine AH.le_put ?_ (by first | assumption | exact (AH.blk_put_ne _ _ (by assumption)).trans (by assumption) | exact AH.none_put (by assumption) | exact AH.none_put (AH.none_put (by assumption)) | (simp only [AH.blk_setTok, AH.tok_put] at *; first | assumption | exact AH.none_put (by assumption)))) | (refine AH.le_setTok ?_ (by first | assumption | exact (AH.blk_put_ne _ _ (by assumption)).trans (by assumption) | exact AH.none_put (by assumption) | exact AH.none_put (AH.none_put (by assumption)) | (simp only [AH.blk_setTok, AH.tok_put] at *; first | assumption | exact AH.none_put (by assumption)))) | (refine AH.le_putM ?_ (by first | assumption | exact (AH.mp_putM_ne _ _ (by assumption)).trans (by assumption) | (simp only [AH.mp_put, AH.mp_setTok] at *; assumption)))))
      | false =>
        cases hto : toB l k y.2 i with
        | true =>
          simp only [hci, hMc, hds_drop h5, hds_drop hMl, c1, tie', c2, F_law_BurialSpreads, g_law_BurialSpreads, go_sem, reduceIte, Nat.reduceEqDiff, Nat.reduceAdd, Nat.reduceMul, Nat.reduceSub, reduceCtorEq, Nat.reduceLeDiff, Nat.reduceLT, Int.reduceLT, Int.reduceLE, Int.reduceToNat, Int.reduceAdd, Int.reduceSub, Int.reduceNeg, Int.reduceMul, Int.reduceEq, ← Bool.decide_and, ← Bool.decide_or, ↓tq_n, ↓tq_e, ↓tq_r, ↓bq_n, ↓bq_e, ↓bq_r, ↓rq_n, ↓rq_r, ↓rq_e]
          refine ⟨by rw [inR64]; omega, i + 1, by omega, by omega, ?_⟩
          rw [e6, e7, hfr, hto, Bool.true_or, Bool.false_or]
          exact (GStep.forget (by repeat' first | exact EnvLe.nil _ | refine EnvLe.cons (AV.le.of_eq rfl) ?_ | refine EnvLe.cons (AV.le.undef _) ?_ | refine EnvLe.cons AV.le.unk ?_) (by repeat' first | exact AH.le.refl _ | assumption | (refine AH.le_put ?_ (by first | assumption | exact (AH.blk_put_ne _ _ (by assumption)).trans (by assumption) | exact AH.none_put (by assumption) | exact AH.none_put (AH.none_put (by assumption)) | (simp only [AH.blk_setTok, AH.tok_put] at *; first | assumption | exact AH.none_put (by assumption)))) | (refine AH.le_setTok ?_ (by first | assumption | exact (AH.blk_put_ne _ _ (by assumption)).trans (by assumption) | exact AH.none_put (by assumption) | exact AH.none_put (AH.none_put (by assumption)) | (simp only [AH.blk_setTok, AH.tok_put] at *; first | assumption | exact AH.none_put (by assumption)))) | (refine AH.le_putM ?_ (by first | assumption | exact (AH.mp_putM_ne _ _ (by assumption)).trans (by assumption) | (simp only [AH.mp_put, AH.mp_setTok] at *; assumption)))))
        | false =>
          simp only [hci, hMc, hds_drop h5, hds_drop hMl, c1, tie', c2, F_law_BurialSpreads, g_law_BurialSpreads, go_sem, reduceIte, Nat.reduceEqDiff, Nat.reduceAdd, Nat.reduceMul, Nat.reduceSub, reduceCtorEq, Nat.reduceLeDiff, Nat.reduceLT, Int.reduceLT, Int.reduceLE, Int.reduceToNat, Int.reduceAdd, Int.reduceSub, Int.reduceNeg, Int.reduceMul, Int.reduceEq, ← Bool.decide_and, ← Bool.decide_or, ↓tq_n, ↓tq_e, ↓tq_r, ↓bq_n, ↓bq_e, ↓bq_r, ↓rq_n, ↓rq_r, ↓rq_e]
          refine ⟨by rw [inR64]; omega, i + 1, by omega, by omega, ?_⟩
          rw [e6, e7, hfr, hto, Bool.false_or, Bool.false_or]
          exact (GStep.forget (by repeat' first | exact EnvLe.nil _ | refine EnvLe.cons (AV.le.of_eq rfl) ?_ | refine EnvLe.cons (AV.le.undef _) ?_ | refine EnvLe.cons AV.le.unk ?_) (by repeat' first | exact AH.le.refl _ | assumption | (refine AH.le_put ?_ (by first | assumption | exact (AH.blk_put_ne _ _ (by assumption)).trans (by assumption) | exact AH.none_put (by assumption) | exact AH.none_put (AH.none_put (by assumption)) | (simp only [AH.blk_setTok, AH.tok_put] at *; first | assumption | exact AH.none_put (by assumption)))) | (refine AH.le_setTok ?_ (by first | assumption | exact (AH.blk_put_ne _ _ (by assumption)).trans (by assumption) | exact AH.none_put (by assumption) | exact AH.none_put (AH.none_put (by assumption)) | (simp only [AH.blk_setTok, AH.tok_put] at *; first | assumption | exact AH.none_put (by assumption)))) | (refine AH.le_putM ?_ (by first | assumption | exact (AH.mp_putM_ne _ _ (by assumption)).trans (by assumption) | (simp only [AH.mp_put, AH.mp_setTok] at *; assumption)))))
    · have tie' : decide ((l.getD i dH).cl.2 = (l.getD M dH).cl.2) = false := decide_eq_false tie
      cases hfr : frB l k y.1 i with
      | true =>
        cases hto : toB l k y.2 i with
        | true =>
          simp only [hci, hMc, hds_drop h5, hds_drop hMl, c1, tie', F_law_BurialSpreads, g_law_BurialSpreads, go_sem, reduceIte, Nat.reduceEqDiff, Nat.reduceAdd, Nat.reduceMul, Nat.reduceSub, reduceCtorEq, Nat.reduceLeDiff, Nat.reduceLT, Int.reduceLT, Int.reduceLE, Int.reduceToNat, Int.reduceAdd, Int.reduceSub, Int.reduceNeg, Int.reduceMul, Int.reduceEq, ← Bool.decide_and, ← Bool.decide_or, ↓tq_n, ↓tq_e, ↓tq_r, ↓bq_n, ↓bq_e, ↓bq_r, ↓rq_n, ↓rq_r, ↓rq_e]
          refine ⟨by rw [inR64]; omega, i + 1, by omega, by omega, ?_⟩
          rw [e6, e7, hfr, hto, Bool.true_or, Bool.true_or]
          exact (GStep.forget (by repeat' first | exact EnvLe.nil _ | refine EnvLe.cons (AV.le.of_eq rfl) ?_ | refine EnvLe.cons (AV.le.undef _) ?_ | refine EnvLe.cons AV.le.unk ?_) (by repeat' first | exact AH.le.refl _ | assumption | (refine AH.le_put ?_ (by first | assumption | exact (AH.blk_put_ne _ _ (by assumption)).trans (by assumption) | exact AH.none_put (by assumption) | exact AH.none_put (AH.none_put (by assumption)) | (simp only [AH.blk_setTok, AH.tok_put] at *; first | assumption | exact AH.none_put (by assumption)))) | (refine AH.le_setTok ?_ (by first | assumption | exact (AH.blk_put_ne _ _ (by assumption)).trans (by assumption) | exact AH.none_put (by assumption) | exact AH.none_put (AH.none_put (by assumption)) | (simp only [AH.blk_setTok, AH.tok_put] at *; first | assumption | exact AH.none_put (by assumption)))) | (refine AH.le_putM ?_ (by first | assumption | exact (AH.mp_putM_ne _ _ (by assumption)).trans (by assumption) | (simp only [AH.mp_put, AH.mp_setTok] at *; assumption)))))
        | false =>
          simp only [hci, hMc, hds_drop h5, hds_drop hMl, c1, tie', F_law_BurialSpreads, g_law_BurialSpreads, go_sem, reduceIte, Nat.reduceEqDiff, Nat.reduceAdd, Nat.reduceMul, Nat.reduceSub, reduceCtorEq, Nat.reduceLeDiff, Nat.reduceLT, Int.reduceLT, Int.reduceLE, Int.reduceToNat, Int.reduceAdd, Int.reduceSub, Int.reduceNeg, Int.reduceMul, Int.reduceEq, ← Bool.decide_and, ← Bool.decide_or, ↓tq_n, ↓tq_e, ↓tq_r, ↓bq_n, ↓bq_e, ↓bq_r, ↓rq_n, ↓rq_r, ↓rq_e]
          refine ⟨by rw [inR64]; omega, i + 1, by omega, by omega, ?_⟩
          rw [e6, e7, hfr, hto, Bool.true_or, Bool.false_or]
          exact (GStep.forget (by repeat' first | exact EnvLe.nil _ | refine EnvLe.cons (AV.le.of_eq rfl) ?_ | refine EnvLe.cons (AV.le.undef _) ?_ | refine EnvLe.cons AV.le.unk ?_) (by repeat' first | exact AH.le.refl _ | assumption | (refine AH.le_put ?_ (by first | assumption | exact (AH.blk_put_ne _ _ (by assumption)).trans (by assumption) | exact AH.none_put (by assumption) | exact AH.none_put (AH.none_put (by assumption)) | (simp only [AH.blk_setTok, AH.tok_put] at *; first | assumption | exact AH.none_put (by assumption)))) | (refine AH.le_setTok ?_ (by first | assumption | exact (AH.blk_put_ne _ _ (by assumption)).trans (by assumption) | exact AH.none_put (by assumption) | exact AH.none_put (AH.none_put (by assumption)) | (simp only [AH.blk_setTok, AH.tok_put] at *; first | assumption | exact AH.none_put (by assumption)))) | (refine AH.le_putM ?_ (by first | assumption | exact (AH.mp_putM_ne _ _ (by assumption)).trans (by assumption) | (simp only [AH.mp_put, AH.mp_setTok] at *; assumption)))))
      | false =>
        cases hto : toB l k y.2 i with
        | true =>
          simp only [hci, hMc, hds_drop h5, hds_drop hMl, c1, tie', F_law_BurialSpreads, g_law_BurialSpreads, go_sem, reduceIte, Nat.reduceEqDiff, Nat.reduceAdd, Nat.reduceMul, Nat.reduceSub, reduceCtorEq, Nat.reduceLeDiff, Nat.reduceLT, Int.reduceLT, Int.reduceLE, Int.reduceToNat, Int.reduceAdd, Int.reduceSub, Int.reduceNeg, Int.reduceMul, Int.reduceEq, ← Bool.decide_and, ← Bool.decide_or, ↓tq_n, ↓tq_e, ↓tq_r, ↓bq_n, ↓bq_e, ↓bq_r, ↓rq_n, ↓rq_r, ↓rq_e]
          refine ⟨by rw [inR64]; omega, i + 1, by omega, by omega, ?_⟩
          rw [e6, e7, hfr, hto, Bool.true_or, Bool.false_or]
          exact (GStep.forget (by repeat' first | exact EnvLe.nil _ | refine EnvLe.cons (AV.le.of_eq rfl) ?_ | refine EnvLe.cons (AV.le.undef _) ?_ | refine EnvLe.cons AV.le.unk ?_) (by repeat' first | exact AH.le.refl _ | assumption | (refine AH.le_put ?_ (by first | assumption | exact (AH.blk_put_ne _ _ (by assumption)).trans (by assumption) | exact AH.none_put (by assumption) | exact AH.none_put (AH.none_put (by assumption)) | (simp only [AH.blk_setTok, AH.tok_put] at *; first | assumption | exact AH.none_put (by assumption)))) | (refine AH.le_setTok ?_ (by first | assumption | exact (AH.blk_put_ne _ _ (by assumption)).trans (by assumption) | exact AH.none_put (by assumption) | exact AH.none_put (AH.none_put (by assumption)) | (simp only [AH.blk_setTok, AH.tok_put] at *; first | assumption | exact AH.none_put (by assumption)))) | (refine AH.le_putM ?_ (by first | assumption | exact (AH.mp_putM_ne _ _ (by assumption)).trans (by assumption) | (simp only [AH.mp_put, AH.mp_setTok] at *; assumption)))))
        | false =>
          simp only [hci, hMc, hds_drop h5, hds_drop hMl, c1, tie', F_law_BurialSpreads, g_law_BurialSpreads, go_sem, reduceIte, Nat.reduceEqDiff, Nat.reduceAdd, Nat.reduceMul, Nat.reduceSub, reduceCtorEq, Nat.reduceLeDiff, Nat.reduceLT, Int.reduceLT, Int.reduceLE, Int.reduceToNat, Int.reduceAdd, Int.reduceSub, Int.reduceNeg, Int.reduceMul, Int.reduceEq, ← Bool.decide_and, ← Bool.decide_or, ↓tq_n, ↓tq_e, ↓tq_r, ↓bq_n, ↓bq_e, ↓bq_r, ↓rq_n, ↓rq_r, ↓rq_e]
          refine ⟨by rw [inR64]; omega, i + 1, by omega, by omega, ?_⟩
          rw [e6, e7, hfr, hto, Bool.false_or, Bool.false_or]
          exact (GStep.forget (by repeat' first | exact EnvLe.nil _ | refine EnvLe.cons (AV.le.of_eq rfl) ?_ | refine EnvLe.cons (AV.le.undef _) ?_ | refine EnvLe.cons AV.le.unk ?_) (by repeat' first | exact AH.le.refl _ | assumption | (refine AH.le_put ?_ (by first | assumption | exact (AH.blk_put_ne _ _ (by assumption)).trans (by assumption) | exact AH.none_put (by assumption) | exact AH.none_put (AH.none_put (by assumption)) | (simp only [AH.blk_setTok, AH.tok_put] at *; first | assumption | exact AH.none_put (by assumption)))) | (refine AH.le_setTok ?_ (by first | assumption | exact (AH.blk_put_ne _ _ (by assumption)).trans (by assumption) | exact AH.none_put (by assumption) | exact AH.none_put (AH.none_put (by assumption)) | (simp only [AH.blk_setTok, AH.tok_put] at *; first | assumption | exact AH.none_put (by assumption)))) | (refine AH.le_putM ?_ (by first | assumption | exact (AH.mp_putM_ne _ _ (by assumption)).trans (by assumption) | (simp only [AH.mp_put, AH.mp_setTok] at *; assumption)))))
  have h5 : i = l.length := by omega
  subst h5
  obtain ⟨x1, a1, a2⟩ := t1
  obtain ⟨x2, b1, b2⟩ := t2
  have hx1 := mem_havI.1 a1
  have hx2 := mem_havI.1 b1
  have r1 := frB_true hx1.1 (Int.ne_of_gt hx1.2) a2
  have r2 := toB_true hx2.1 (Int.ne_of_gt hx2.2) b2
  rw [r1, r2]
  simp only [F_law_BurialSpreads, g_law_BurialSpreads, go_sem, reduceIte, Nat.reduceEqDiff, Nat.reduceAdd, Nat.reduceMul, Nat.reduceSub, reduceCtorEq, Nat.reduceLeDiff, Nat.reduceLT, Int.reduceLT, Int.reduceLE, Int.reduceToNat, Int.reduceAdd, Int.reduceSub, Int.reduceNeg, Int.reduceMul, Int.reduceEq, ← Bool.decide_and, ← Bool.decide_or, ↓tq_n, ↓tq_e, ↓tq_r, ↓bq_n, ↓bq_e, ↓bq_r, ↓rq_n, ↓rq_r, ↓rq_e]
  exact ret_ok rfl
end Go.Proofs.Ytnekkkjedmlloaa
