/- Calls of functions of this seat's program: slices.Compact on arcs in memory. No condition. -/
import Derived.Test.YtndcbompcnlhmaaD1
import Derived.Test.YtndcbompcnlhmaaA26
namespace Go.Proofs.Ytndcbompcnlhmaa
open Go Go.Abs
set_option linter.unusedSimpArgs false
set_option linter.unusedVariables false
set_option maxRecDepth 20000

theorem r_slices_Compact0 (nl : Bool) (tl : Tail) (h : AH) : ACalls Try.prog n_slices_Compact_Arc [.sl nl 0 [] tl] h fun r h' => r = .sl nl 0 [] tl ∧ h' = h := by
  refine ACalls.of hm cF_slices_Compact_Arc (by simp [g_slices_Compact_Arc]) fun hw => ?_
  have h02 : ((0 : Nat) : Int) < 2 := by omega
  simp only [h02, F_slices_Compact_Arc, g_slices_Compact_Arc, go_sem, reduceIte, Nat.reduceEqDiff, Nat.reduceAdd, Nat.reduceMul, Nat.reduceSub, reduceCtorEq, Nat.reduceLeDiff, Nat.reduceLT, Int.reduceLT, Int.reduceLE, Int.reduceToNat, Int.reduceAdd, Int.reduceSub, Int.reduceNeg, Int.reduceMul, Int.reduceEq, ← Bool.decide_and, ← Bool.decide_or, ↓tq_n, ↓tq_e, ↓tq_r, ↓bq_n, ↓bq_e, ↓bq_r, ↓rq_n, ↓rq_r, ↓rq_e]
  exact ⟨_, _, RGh.refl _ _, rfl, rfl⟩
theorem prs_take (l : List (Int × Int)) (k : Nat) : (prs l).take (k * 2) = prs (l.take k) := by
  induction l generalizing k with
  | nil => simp [prs]
  | cons x l ih =>
    cases k with
    | zero => simp [prs]
    | succ k =>
      have e : prs (x :: l) = I x.1 :: I x.2 :: prs l := rfl
      rw [e, show (k + 1) * 2 = k * 2 + 1 + 1 by omega, List.take_succ_cons, List.take_succ_cons, ih]; rfl
theorem prs_set (l : List (Int × Int)) (k : Nat) (v : Int × Int) : ((prs l).set (k * 2) (I v.1)).set (k * 2 + 1) (I v.2) = prs (l.set k v) := by
  induction l generalizing k with
  | nil => simp [prs]
  | cons x l ih =>
    have e : prs (x :: l) = I x.1 :: I x.2 :: prs l := rfl
    cases k with
    | zero => rfl
    | succ k =>
      rw [e, show (k + 1) * 2 = k * 2 + 1 + 1 by omega]
      simp only [List.set_cons_succ]
      rw [ih]; rfl
set_option maxHeartbeats 2000000 in
/-- The list is compacted in place; the rest is cleared. -/
theorem s_slices_Compact_Arc (xs : List (Int × Int)) (hx : 1 ≤ xs.length) (hx2 : xs.length ≤ 100000) {q : Nat} (hq : xs.length ≤ q) {h : AH} {b : Nat} {rest : List AV} (hb : h.blk b = some (prs xs ++ rest)) :
    ACalls Try.prog n_slices_Compact_Arc [.msl b 0 xs.length (some q)] h fun r h' => r = .sl false (ddP xs xs.length).length (prs (ddP xs xs.length)) .unk ∧ h' = h.del b := by
  refine ACalls.of hm cF_slices_Compact_Arc (by simp [g_slices_Compact_Arc]) fun hw => ?_
  have hfix : ∀ {H : AH} {cs : List AV} {n : Nat} {ys : List (Int × Int)} {cap : Option Nat}, n = ys.length → cs.take (n * 2) = prs ys → ∃ r' h'', RGh (.msl b 0 n cap) (H.put b cs) r' h'' ∧ r' = .sl false ys.length (prs ys) .unk ∧ h'' = (H.put b cs).del b := fun {H cs n ys cap} hn hc => by
    have := RGh.fix (n := n) (cap := cap) (AH.blk_put H b cs) 2
    rw [hc] at this
    exact ⟨_, _, this, by rw [hn], rfl⟩
  have hfix0 : ∀ {cap : Option Nat}, ∃ r' h'', RGh (.msl b 0 xs.length cap) h r' h'' ∧ r' = .sl false xs.length (prs xs) .unk ∧ h'' = h.del b := fun {cap} => by
    have := RGh.fix (n := xs.length) (cap := cap) hb 2
    rw [List.take_append_of_le_length (by rw [prs_len]; exact Nat.le_refl _), List.take_of_length_le (by rw [prs_len]; exact Nat.le_refl _)] at this
    exact ⟨_, _, this, rfl, rfl⟩
  by_cases h2 : xs.length < 2
  · have hc : (xs.length : Int) < 2 := by omega
    have e1 : ddP xs xs.length = xs := by rw [ddP_full (fun j h0 hj => by omega) _ (Nat.le_refl _), List.take_length]
    simp only [hc, F_slices_Compact_Arc, g_slices_Compact_Arc, go_sem, reduceIte, Nat.reduceEqDiff, Nat.reduceAdd, Nat.reduceMul, Nat.reduceSub, reduceCtorEq, Nat.reduceLeDiff, Nat.reduceLT, Int.reduceLT, Int.reduceLE, Int.reduceToNat, Int.reduceAdd, Int.reduceSub, Int.reduceNeg, Int.reduceMul, Int.reduceEq, ← Bool.decide_and, ← Bool.decide_or, ↓tq_n, ↓tq_e, ↓tq_r, ↓bq_n, ↓bq_e, ↓bq_r, ↓rq_n, ↓rq_r, ↓rq_e]
    rw [e1]; exact hfix0
  have hc : ¬ (xs.length : Int) < 2 := by omega
  simp only [hc, F_slices_Compact_Arc, g_slices_Compact_Arc, go_sem, reduceIte, Nat.reduceEqDiff, Nat.reduceAdd, Nat.reduceMul, Nat.reduceSub, reduceCtorEq, Nat.reduceLeDiff, Nat.reduceLT, Int.reduceLT, Int.reduceLE, Int.reduceToNat, Int.reduceAdd, Int.reduceSub, Int.reduceNeg, Int.reduceMul, Int.reduceEq, ← Bool.decide_and, ← Bool.decide_or, ↓tq_n, ↓tq_e, ↓tq_r, ↓bq_n, ↓bq_e, ↓bq_r, ↓rq_n, ↓rq_r, ↓rq_e]
  have hdrop : ∀ j, j < xs.length → (prs xs ++ rest).drop (j * 2) = I (xs.getD j (0, 0)).1 :: I (xs.getD j (0, 0)).2 :: ((prs xs).drop (j * 2 + 2) ++ rest) := fun j hj => by
    rw [List.drop_append_of_le_length (by rw [prs_len]; omega), prs_drop hj]; rfl
  refine awp_loop (fun k : Nat => [(0, .msl b 0 xs.length (some q)), (3, I k)]) (fun _ => h) (fun k => 1 ≤ k ∧ k ≤ xs.length ∧ ∀ j, 0 < j → j < k → xs.getD j (0, 0) ≠ xs.getD (j - 1) (0, 0)) (fun k => xs.length - k) 1 ⟨Nat.le_refl _, hx, fun j h0 hj => by omega⟩ (GStep.forget (by repeat' first | exact EnvLe.nil _ | refine EnvLe.cons (AV.le.of_eq rfl) ?_ | refine EnvLe.cons (AV.le.undef _) ?_ | refine EnvLe.cons AV.le.unk ?_) (by repeat' first | exact AH.le.refl _ | assumption | (refine AH.le_put ?_ (by first | assumption | exact (AH.blk_put_ne _ _ (by assumption)).trans (by assumption) | exact AH.none_put (by assumption) | exact AH.none_put (AH.none_put (by assumption)) | (simp only [AH.blk_setTok, AH.tok_put] at *; first | assumption | exact AH.none_put (by assumption)))) | (refine AH.le_setTok ?_ (by first | assumption | exact (AH.blk_put_ne _ _ (by assumption)).trans (by assumption) | exact AH.none_put (by assumption) | exact AH.none_put (AH.none_put (by assumption)) | (simp only [AH.blk_setTok, AH.tok_put] at *; first | assumption | exact AH.none_put (by assumption)))) | (refine AH.le_putM ?_ (by first | assumption | exact (AH.mp_putM_ne _ _ (by assumption)).trans (by assumption) | (simp only [AH.mp_put, AH.mp_setTok] at *; assumption))))) fun k hk => .of_vg hm ?_
  obtain ⟨k1, k2, k3⟩ := hk
  by_cases hkn : k < xs.length
  case neg =>
    have hkn : k = xs.length := by omega
    subst hkn
    have e1 : ddP xs xs.length = xs := by rw [ddP_full k3 _ (Nat.le_refl _), List.take_length]
    simp only [F_slices_Compact_Arc, g_slices_Compact_Arc, go_sem, reduceIte, Nat.reduceEqDiff, Nat.reduceAdd, Nat.reduceMul, Nat.reduceSub, reduceCtorEq, Nat.reduceLeDiff, Nat.reduceLT, Int.reduceLT, Int.reduceLE, Int.reduceToNat, Int.reduceAdd, Int.reduceSub, Int.reduceNeg, Int.reduceMul, Int.reduceEq, ← Bool.decide_and, ← Bool.decide_or, ↓tq_n, ↓tq_e, ↓tq_r, ↓bq_n, ↓bq_e, ↓bq_r, ↓rq_n, ↓rq_r, ↓rq_e]
    rw [e1]; exact hfix0
  have hkc : (k : Int) < (xs.length : Int) := by omega
  have hkm : (k : Int) - 1 = ((k - 1 : Nat) : Int) := by omega
  have hkr : InR .i64 ((k - 1 : Nat) : Int) := by rw [inR64]; omega
  have hkc1 : ((k - 1 : Nat) : Int) < (xs.length : Int) := by omega
  have hkq : k < q := by omega
  by_cases heq : xs.getD k (0, 0) = xs.getD (k - 1) (0, 0)
  case neg =>
    have hnext : ∀ j, 0 < j → j < k + 1 → xs.getD j (0, 0) ≠ xs.getD (j - 1) (0, 0) := fun j h0 hj => by
      rcases lt_succ_cases hj with hj | rfl
      · exact k3 j h0 hj
      · exact heq
    by_cases hq1 : (xs.getD k (0, 0)).1 = (xs.getD (k - 1) (0, 0)).1
    · have hq2 : ¬ (xs.getD k (0, 0)).2 = (xs.getD (k - 1) (0, 0)).2 := fun hh => heq (Prod.ext hq1 hh)
      simp only [hkc, hkm, hkr, hkc1, hb, hdrop k hkn, hdrop (k - 1) (by omega), hq1, hq2, Bool.true_and, Bool.false_and, Bool.and_self, F_slices_Compact_Arc, g_slices_Compact_Arc, go_sem, reduceIte, Nat.reduceEqDiff, Nat.reduceAdd, Nat.reduceMul, Nat.reduceSub, reduceCtorEq, Nat.reduceLeDiff, Nat.reduceLT, Int.reduceLT, Int.reduceLE, Int.reduceToNat, Int.reduceAdd, Int.reduceSub, Int.reduceNeg, Int.reduceMul, Int.reduceEq, ← Bool.decide_and, ← Bool.decide_or, ↓tq_n, ↓tq_e, ↓tq_r, ↓bq_n, ↓bq_e, ↓bq_r, ↓rq_n, ↓rq_r, ↓rq_e]
      exact ⟨by rw [inR64]; omega, k + 1, ⟨by omega, by omega, hnext⟩, by omega, (GStep.forget (by repeat' first | exact EnvLe.nil _ | refine EnvLe.cons (AV.le.of_eq rfl) ?_ | refine EnvLe.cons (AV.le.undef _) ?_ | refine EnvLe.cons AV.le.unk ?_) (by repeat' first | exact AH.le.refl _ | assumption | (refine AH.le_put ?_ (by first | assumption | exact (AH.blk_put_ne _ _ (by assumption)).trans (by assumption) | exact AH.none_put (by assumption) | exact AH.none_put (AH.none_put (by assumption)) | (simp only [AH.blk_setTok, AH.tok_put] at *; first | assumption | exact AH.none_put (by assumption)))) | (refine AH.le_setTok ?_ (by first | assumption | exact (AH.blk_put_ne _ _ (by assumption)).trans (by assumption) | exact AH.none_put (by assumption) | exact AH.none_put (AH.none_put (by assumption)) | (simp only [AH.blk_setTok, AH.tok_put] at *; first | assumption | exact AH.none_put (by assumption)))) | (refine AH.le_putM ?_ (by first | assumption | exact (AH.mp_putM_ne _ _ (by assumption)).trans (by assumption) | (simp only [AH.mp_put, AH.mp_setTok] at *; assumption)))))⟩
    · simp only [hkc, hkm, hkr, hkc1, hb, hdrop k hkn, hdrop (k - 1) (by omega), hq1, Bool.true_and, Bool.false_and, Bool.and_self, F_slices_Compact_Arc, g_slices_Compact_Arc, go_sem, reduceIte, Nat.reduceEqDiff, Nat.reduceAdd, Nat.reduceMul, Nat.reduceSub, reduceCtorEq, Nat.reduceLeDiff, Nat.reduceLT, Int.reduceLT, Int.reduceLE, Int.reduceToNat, Int.reduceAdd, Int.reduceSub, Int.reduceNeg, Int.reduceMul, Int.reduceEq, ← Bool.decide_and, ← Bool.decide_or, ↓tq_n, ↓tq_e, ↓tq_r, ↓bq_n, ↓bq_e, ↓bq_r, ↓rq_n, ↓rq_r, ↓rq_e]
      exact ⟨by rw [inR64]; omega, k + 1, ⟨by omega, by omega, hnext⟩, by omega, (GStep.forget (by repeat' first | exact EnvLe.nil _ | refine EnvLe.cons (AV.le.of_eq rfl) ?_ | refine EnvLe.cons (AV.le.undef _) ?_ | refine EnvLe.cons AV.le.unk ?_) (by repeat' first | exact AH.le.refl _ | assumption | (refine AH.le_put ?_ (by first | assumption | exact (AH.blk_put_ne _ _ (by assumption)).trans (by assumption) | exact AH.none_put (by assumption) | exact AH.none_put (AH.none_put (by assumption)) | (simp only [AH.blk_setTok, AH.tok_put] at *; first | assumption | exact AH.none_put (by assumption)))) | (refine AH.le_setTok ?_ (by first | assumption | exact (AH.blk_put_ne _ _ (by assumption)).trans (by assumption) | exact AH.none_put (by assumption) | exact AH.none_put (AH.none_put (by assumption)) | (simp only [AH.blk_setTok, AH.tok_put] at *; first | assumption | exact AH.none_put (by assumption)))) | (refine AH.le_putM ?_ (by first | assumption | exact (AH.mp_putM_ne _ _ (by assumption)).trans (by assumption) | (simp only [AH.mp_put, AH.mp_setTok] at *; assumption)))))⟩
  have hpre : ∀ m, m ≤ k → ddP xs m = xs.take m := by
    intro m
    induction m with
    | zero => intro _; rfl
    | succ m ih =>
      intro hmk
      rw [ddP, if_neg (fun hh => k3 m hh.1 (by omega) hh.2), ih (by omega), take_getD (0, 0) (by omega)]
  have hd1 : ddP xs (k + 1) = xs.take k := by rw [ddP, if_pos ⟨by omega, heq⟩, hpre k (Nat.le_refl _)]
  have heq1 : (xs.getD k (0, 0)).1 = (xs.getD (k - 1) (0, 0)).1 := by rw [heq]
  have heq2 : (xs.getD k (0, 0)).2 = (xs.getD (k - 1) (0, 0)).2 := by rw [heq]
  simp only [hkc, hkm, hkr, hkc1, hb, hdrop k hkn, hdrop (k - 1) (by omega), heq1, heq2, Bool.true_and, Bool.false_and, Bool.and_self, mslCut_lt hkq, F_slices_Compact_Arc, g_slices_Compact_Arc, go_sem, reduceIte, Nat.reduceEqDiff, Nat.reduceAdd, Nat.reduceMul, Nat.reduceSub, reduceCtorEq, Nat.reduceLeDiff, Nat.reduceLT, Int.reduceLT, Int.reduceLE, Int.reduceToNat, Int.reduceAdd, Int.reduceSub, Int.reduceNeg, Int.reduceMul, Int.reduceEq, ← Bool.decide_and, ← Bool.decide_or, ↓tq_n, ↓tq_e, ↓tq_r, ↓bq_n, ↓bq_e, ↓bq_r, ↓rq_n, ↓rq_r, ↓rq_e]
  refine ⟨by omega, by omega, ?_⟩
  refine awp_loop (α := Nat × Nat × List (Int × Int)) (fun p => [(0, .msl b 0 xs.length (some q)), (3, I p.2.1), (4, .msl b (k * 2) (xs.length - k) (some (q - k))), (5, I p.1)]) (fun p => h.put b (prs p.2.2 ++ rest))
    (fun p => 1 ≤ p.1 ∧ p.1 ≤ xs.length - k ∧ p.2.2.length = xs.length ∧ (∀ j, k + p.1 - 1 ≤ j → j < xs.length → p.2.2.getD j (0, 0) = xs.getD j (0, 0)) ∧ ddP xs (k + p.1) = p.2.2.take p.2.1 ∧ p.2.1 ≤ k + p.1 - 1) (fun p => xs.length - k - p.1) (1, k, xs) ⟨Nat.le_refl _, by omega, rfl, fun _ _ _ => rfl, hd1, (by show k ≤ k + 1 - 1; omega)⟩ ?_ fun p hp => .of_vg hm ?_
  · rw [AH.put_same hb]
    exact (GStep.forget (by repeat' first | exact EnvLe.nil _ | refine EnvLe.cons (AV.le.of_eq rfl) ?_ | refine EnvLe.cons (AV.le.undef _) ?_ | refine EnvLe.cons AV.le.unk ?_) (by repeat' first | exact AH.le.refl _ | assumption | (refine AH.le_put ?_ (by first | assumption | exact (AH.blk_put_ne _ _ (by assumption)).trans (by assumption) | exact AH.none_put (by assumption) | exact AH.none_put (AH.none_put (by assumption)) | (simp only [AH.blk_setTok, AH.tok_put] at *; first | assumption | exact AH.none_put (by assumption)))) | (refine AH.le_setTok ?_ (by first | assumption | exact (AH.blk_put_ne _ _ (by assumption)).trans (by assumption) | exact AH.none_put (by assumption) | exact AH.none_put (AH.none_put (by assumption)) | (simp only [AH.blk_setTok, AH.tok_put] at *; first | assumption | exact AH.none_put (by assumption)))) | (refine AH.le_putM ?_ (by first | assumption | exact (AH.mp_putM_ne _ _ (by assumption)).trans (by assumption) | (simp only [AH.mp_put, AH.mp_setTok] at *; assumption)))))
  obtain ⟨m, K, B⟩ := p
  obtain ⟨p1, p2, p3, p4, p5, p6⟩ := hp
  simp only at p1 p2 p3 p4 p5 p6 ⊢
  have hlen : (prs B ++ rest).length = xs.length * 2 + rest.length := by rw [List.length_append, prs_len, p3]
  by_cases hm2 : m < xs.length - k
  · have hc1 : (m : Int) < ((xs.length - k : Nat) : Int) := by omega
    have hmm : (m : Int) - 1 = ((m - 1 : Nat) : Int) := by omega
    have hmr : InR .i64 ((m - 1 : Nat) : Int) := by rw [inR64]; omega
    have hc2 : ((m - 1 : Nat) : Int) < ((xs.length - k : Nat) : Int) := by omega
    have hKc : (K : Int) < (xs.length : Int) := by omega
    have hBd : ∀ j, k + m - 1 ≤ j → j < xs.length → (prs B ++ rest).drop (j * 2) = I (xs.getD j (0, 0)).1 :: I (xs.getD j (0, 0)).2 :: ((prs B).drop (j * 2 + 2) ++ rest) := fun j h1 h2 => by
      rw [List.drop_append_of_le_length (by rw [prs_len]; omega), prs_drop (by omega), p4 j h1 h2]; rfl
    have hd2 := hBd (k + m) (by omega) (by omega)
    have hd3 := hBd (k + (m - 1)) (by omega) (by omega)
    have ho2 : k * 2 + m * 2 = (k + m) * 2 := by omega
    have ho3 : k * 2 + (m - 1) * 2 = (k + (m - 1)) * 2 := by omega
    by_cases hne : xs.getD (k + m) (0, 0) = xs.getD (k + (m - 1)) (0, 0)
    · have e1 : ddP xs (k + (m + 1)) = ddP xs (k + m) := by
        rw [← Nat.add_assoc, ddP, if_pos ⟨by omega, by rw [show k + m - 1 = k + (m - 1) by omega]; exact hne⟩]
      have hn1 : (xs.getD (k + m) (0, 0)).1 = (xs.getD (k + (m - 1)) (0, 0)).1 := by rw [hne]
      have hn2 : (xs.getD (k + m) (0, 0)).2 = (xs.getD (k + (m - 1)) (0, 0)).2 := by rw [hne]
      simp only [hc1, hmm, hmr, hc2, ho2, ho3, hd2, hd3, hn1, hn2, Bool.true_and, Bool.false_and, Bool.and_self, F_slices_Compact_Arc, g_slices_Compact_Arc, go_sem, reduceIte, Nat.reduceEqDiff, Nat.reduceAdd, Nat.reduceMul, Nat.reduceSub, reduceCtorEq, Nat.reduceLeDiff, Nat.reduceLT, Int.reduceLT, Int.reduceLE, Int.reduceToNat, Int.reduceAdd, Int.reduceSub, Int.reduceNeg, Int.reduceMul, Int.reduceEq, ← Bool.decide_and, ← Bool.decide_or, ↓tq_n, ↓tq_e, ↓tq_r, ↓bq_n, ↓bq_e, ↓bq_r, ↓rq_n, ↓rq_r, ↓rq_e]
      exact ⟨by rw [inR64]; omega, (m + 1, K, B), ⟨by simp only; omega, by simp only; omega, p3, fun j h1 h2 => p4 j (by simp only at h1; omega) h2, by simp only; rw [e1]; exact p5, by simp only; omega⟩, by simp only; omega, (GStep.forget (by repeat' first | exact EnvLe.nil _ | refine EnvLe.cons (AV.le.of_eq rfl) ?_ | refine EnvLe.cons (AV.le.undef _) ?_ | refine EnvLe.cons AV.le.unk ?_) (by repeat' first | exact AH.le.refl _ | assumption | (refine AH.le_put ?_ (by first | assumption | exact (AH.blk_put_ne _ _ (by assumption)).trans (by assumption) | exact AH.none_put (by assumption) | exact AH.none_put (AH.none_put (by assumption)) | (simp only [AH.blk_setTok, AH.tok_put] at *; first | assumption | exact AH.none_put (by assumption)))) | (refine AH.le_setTok ?_ (by first | assumption | exact (AH.blk_put_ne _ _ (by assumption)).trans (by assumption) | exact AH.none_put (by assumption) | exact AH.none_put (AH.none_put (by assumption)) | (simp only [AH.blk_setTok, AH.tok_put] at *; first | assumption | exact AH.none_put (by assumption)))) | (refine AH.le_putM ?_ (by first | assumption | exact (AH.mp_putM_ne _ _ (by assumption)).trans (by assumption) | (simp only [AH.mp_put, AH.mp_setTok] at *; assumption)))))⟩
    · have e1 : ddP xs (k + (m + 1)) = ddP xs (k + m) ++ [xs.getD (k + m) (0, 0)] := by
        rw [← Nat.add_assoc, ddP, if_neg (fun hh => hne (by rw [show k + m - 1 = k + (m - 1) by omega] at hh; exact hh.2))]
      have hset : ((prs B ++ rest).set (K * 2) (I (xs.getD (k + m) (0, 0)).1)).set (K * 2 + 1) (I (xs.getD (k + m) (0, 0)).2) = prs (B.set K (xs.getD (k + m) (0, 0))) ++ rest := by
        rw [List.set_append_left _ _ (by rw [prs_len]; omega), List.set_append_left _ _ (by rw [List.length_set, prs_len]; omega), prs_set]
      have hK2 : K * 2 + 2 ≤ (prs B ++ rest).length := by rw [hlen]; omega
      have hstep : (1 ≤ m + 1 ∧ m + 1 ≤ xs.length - k ∧ (B.set K (xs.getD (k + m) (0, 0))).length = xs.length ∧ (∀ j, k + (m + 1) - 1 ≤ j → j < xs.length → (B.set K (xs.getD (k + m) (0, 0))).getD j (0, 0) = xs.getD j (0, 0)) ∧ ddP xs (k + (m + 1)) = (B.set K (xs.getD (k + m) (0, 0))).take (K + 1) ∧ K + 1 ≤ k + (m + 1) - 1) := by
        refine ⟨by omega, by omega, by simp only [List.length_set]; exact p3, fun j h1 h2 => ?_, ?_, by omega⟩
        · have : (B.set K (xs.getD (k + m) (0, 0))).getD j (0, 0) = B.getD j (0, 0) := by
            simp only [List.getD, List.getElem?_set]
            rw [if_neg (by omega)]
          rw [this]
          exact p4 j (by omega) h2
        · rw [e1, p5]
          have hKB : K < B.length := by omega
          rw [List.take_add_one, List.getElem?_set_self hKB, List.take_set_of_le (Nat.le_refl _)]
          rfl
      by_cases hn1 : (xs.getD (k + m) (0, 0)).1 = (xs.getD (k + (m - 1)) (0, 0)).1
      · have hn2 : ¬ (xs.getD (k + m) (0, 0)).2 = (xs.getD (k + (m - 1)) (0, 0)).2 := fun hh => hne (Prod.ext hn1 hh)
        simp only [hc1, hmm, hmr, hc2, ho2, ho3, hd2, hd3, decide_eq_true hn1, decide_eq_false hn2, Bool.true_and, Bool.false_and, Bool.and_self, hKc, hK2, F_slices_Compact_Arc, g_slices_Compact_Arc, go_sem, reduceIte, Nat.reduceEqDiff, Nat.reduceAdd, Nat.reduceMul, Nat.reduceSub, reduceCtorEq, Nat.reduceLeDiff, Nat.reduceLT, Int.reduceLT, Int.reduceLE, Int.reduceToNat, Int.reduceAdd, Int.reduceSub, Int.reduceNeg, Int.reduceMul, Int.reduceEq, ← Bool.decide_and, ← Bool.decide_or, ↓tq_n, ↓tq_e, ↓tq_r, ↓bq_n, ↓bq_e, ↓bq_r, ↓rq_n, ↓rq_r, ↓rq_e]
        rw [hset]
        exact ⟨by rw [inR64]; omega, by rw [inR64]; omega, (m + 1, K + 1, B.set K (xs.getD (k + m) (0, 0))), hstep, by simp only; omega, (GStep.forget (by repeat' first | exact EnvLe.nil _ | refine EnvLe.cons (AV.le.of_eq rfl) ?_ | refine EnvLe.cons (AV.le.undef _) ?_ | refine EnvLe.cons AV.le.unk ?_) (by repeat' first | exact AH.le.refl _ | assumption | (refine AH.le_put ?_ (by first | assumption | exact (AH.blk_put_ne _ _ (by assumption)).trans (by assumption) | exact AH.none_put (by assumption) | exact AH.none_put (AH.none_put (by assumption)) | (simp only [AH.blk_setTok, AH.tok_put] at *; first | assumption | exact AH.none_put (by assumption)))) | (refine AH.le_setTok ?_ (by first | assumption | exact (AH.blk_put_ne _ _ (by assumption)).trans (by assumption) | exact AH.none_put (by assumption) | exact AH.none_put (AH.none_put (by assumption)) | (simp only [AH.blk_setTok, AH.tok_put] at *; first | assumption | exact AH.none_put (by assumption)))) | (refine AH.le_putM ?_ (by first | assumption | exact (AH.mp_putM_ne _ _ (by assumption)).trans (by assumption) | (simp only [AH.mp_put, AH.mp_setTok] at *; assumption)))))⟩
      · simp only [hc1, hmm, hmr, hc2, ho2, ho3, hd2, hd3, decide_eq_false hn1, Bool.true_and, Bool.false_and, Bool.and_self, hKc, hK2, F_slices_Compact_Arc, g_slices_Compact_Arc, go_sem, reduceIte, Nat.reduceEqDiff, Nat.reduceAdd, Nat.reduceMul, Nat.reduceSub, reduceCtorEq, Nat.reduceLeDiff, Nat.reduceLT, Int.reduceLT, Int.reduceLE, Int.reduceToNat, Int.reduceAdd, Int.reduceSub, Int.reduceNeg, Int.reduceMul, Int.reduceEq, ← Bool.decide_and, ← Bool.decide_or, ↓tq_n, ↓tq_e, ↓tq_r, ↓bq_n, ↓bq_e, ↓bq_r, ↓rq_n, ↓rq_r, ↓rq_e]
        rw [hset]
        exact ⟨by rw [inR64]; omega, by rw [inR64]; omega, (m + 1, K + 1, B.set K (xs.getD (k + m) (0, 0))), hstep, by simp only; omega, (GStep.forget (by repeat' first | exact EnvLe.nil _ | refine EnvLe.cons (AV.le.of_eq rfl) ?_ | refine EnvLe.cons (AV.le.undef _) ?_ | refine EnvLe.cons AV.le.unk ?_) (by repeat' first | exact AH.le.refl _ | assumption | (refine AH.le_put ?_ (by first | assumption | exact (AH.blk_put_ne _ _ (by assumption)).trans (by assumption) | exact AH.none_put (by assumption) | exact AH.none_put (AH.none_put (by assumption)) | (simp only [AH.blk_setTok, AH.tok_put] at *; first | assumption | exact AH.none_put (by assumption)))) | (refine AH.le_setTok ?_ (by first | assumption | exact (AH.blk_put_ne _ _ (by assumption)).trans (by assumption) | exact AH.none_put (by assumption) | exact AH.none_put (AH.none_put (by assumption)) | (simp only [AH.blk_setTok, AH.tok_put] at *; first | assumption | exact AH.none_put (by assumption)))) | (refine AH.le_putM ?_ (by first | assumption | exact (AH.mp_putM_ne _ _ (by assumption)).trans (by assumption) | (simp only [AH.mp_put, AH.mp_setTok] at *; assumption)))))⟩
  have hm2 : m = xs.length - k := by omega
  have hmn : k + m = xs.length := by omega
  rw [hmn] at p5
  have hKq : K < q := by omega
  have hKl : (ddP xs xs.length).length = K := by rw [p5, List.length_take]; omega
  have hc1 : ¬ (m : Int) < ((xs.length - k : Nat) : Int) := by omega
  simp only [hc1, mslCut_lt hKq, hlen, Nat.sub_zero, F_slices_Compact_Arc, g_slices_Compact_Arc, go_sem, reduceIte, Nat.reduceEqDiff, Nat.reduceAdd, Nat.reduceMul, Nat.reduceSub, reduceCtorEq, Nat.reduceLeDiff, Nat.reduceLT, Int.reduceLT, Int.reduceLE, Int.reduceToNat, Int.reduceAdd, Int.reduceSub, Int.reduceNeg, Int.reduceMul, Int.reduceEq, ← Bool.decide_and, ← Bool.decide_or, ↓tq_n, ↓tq_e, ↓tq_r, ↓bq_n, ↓bq_e, ↓bq_r, ↓rq_n, ↓rq_r, ↓rq_e]
  refine ⟨by omega, by omega, by omega, by omega, ?_⟩
  rw [← hKl]
  refine ⟨Nat.zero_le _, ?_⟩
  have hKx : (ddP xs xs.length).length ≤ xs.length := ddP_len xs xs.length
  have hfl : (List.replicate (xs.length - (ddP xs xs.length).length) [AV.int IntKind.i64 0, AV.int IntKind.i64 0]).flatten.length = (xs.length - (ddP xs xs.length).length) * 2 := by simp
  have htk : List.take ((ddP xs xs.length).length * 2) (spl (prs B ++ rest) ((ddP xs xs.length).length * 2) (List.replicate (xs.length - (ddP xs xs.length).length) [AV.int IntKind.i64 0, AV.int IntKind.i64 0]).flatten) = prs (ddP xs xs.length) := by
    rw [spl_eq _ _ _ (by rw [hfl, hlen]; omega), List.append_assoc, List.take_append_of_le_length (by rw [List.length_take, hlen]; omega), List.take_take, Nat.min_self, List.take_append_of_le_length (by rw [prs_len, p3]; omega), prs_take, hKl, ← p5]
  obtain ⟨r', h'', a1, a2, a3⟩ := hfix (H := h) (cap := some q) (n := (ddP xs xs.length).length) (ys := ddP xs xs.length) rfl htk
  refine ⟨r', h'', a1, a2, ?_⟩
  rw [a3]
  simp only [AH.put, AH.del, AH.mk.injEq, and_true]
  funext x
  by_cases hx : x = b <;> simp [hx]
end Go.Proofs.Ytndcbompcnlhmaa
