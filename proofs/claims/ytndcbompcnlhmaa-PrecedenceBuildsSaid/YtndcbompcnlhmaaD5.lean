/- Calls of functions of this seat's program: the digraph of pieces. No condition. -/
import Derived.Test.YtndcbompcnlhmaaD3
import Derived.Test.YtndcbompcnlhmaaD4
import Derived.Test.YtndcbompcnlhmaaV9
namespace Go.Proofs.Ytndcbompcnlhmaa
open Go Go.Abs
set_option linter.unusedSimpArgs false
set_option linter.unusedVariables false
set_option maxRecDepth 20000

/-- The ends of pieces, in order, each once. -/
def enA (P : List (Int × Int × Int)) : List (Int × Int) := P.map fun p => (p.2.1, p.2.2)
def arcL (P : List (Int × Int × Int)) : List (Int × Int) := ddP (sP cf2 (enA P)) (sP cf2 (enA P)).length
theorem enA_len (P : List (Int × Int × Int)) : (enA P).length = P.length := by simp [enA]
theorem enA_succ (P : List (Int × Int × Int)) {j : Nat} (h : j < P.length) : enA (P.take (j + 1)) = enA (P.take j) ++ [((P.getD j (0, 0, 0)).2.1, (P.getD j (0, 0, 0)).2.2)] := by
  rw [take_getD (0, 0, 0) h]; simp [enA]
theorem sP_ord (l : List (Int × Int)) : ∀ i j, i ≤ j → j < (sP cf2 l).length → ¬ Lx ((sP cf2 l).getD j (0, 0)) ((sP cf2 l).getD i (0, 0)) := by
  intro i j hij hj
  rcases Nat.lt_or_eq_of_le hij with h | h
  · have hs : (sP cf2 l).Pairwise fun x y => (!(Go.Proofs.ltOf cf2) y x) = true := List.pairwise_mergeSort (le := fun x y => !(Go.Proofs.ltOf cf2) y x)
      (fun a b c => by
        simp only [Bool.not_eq_true', Bool.eq_false_iff, ne_eq, lt2_iff]
        unfold Lx; omega)
      (fun a b => by
        simp only [Bool.or_eq_true, Bool.not_eq_true', Bool.eq_false_iff, ne_eq, lt2_iff]
        unfold Lx; omega) l
    have := List.pairwise_iff_getElem.1 hs i j (by omega) hj h
    simp only [Bool.not_eq_true', Bool.eq_false_iff, ne_eq, lt2_iff] at this
    simp only [List.getD_eq_getElem?_getD, List.getElem?_eq_getElem hj, List.getElem?_eq_getElem (show i < (sP cf2 l).length by omega), Option.getD_some]
    exact this
  · subst h; exact Lx.irr
theorem arcL_asc (P : List (Int × Int × Int)) : (arcL P).Pairwise Lx := ddP_asc (sP_ord _) _ (Nat.le_refl _)
theorem mem_arcL {P : List (Int × Int × Int)} {x : Int × Int} : x ∈ arcL P ↔ ∃ p ∈ P, (p.2.1, p.2.2) = x := by
  unfold arcL
  rw [ddP_mem]
  have e1 : (∃ j, j < (sP cf2 (enA P)).length ∧ (sP cf2 (enA P)).getD j (0, 0) = x) ↔ x ∈ sP cf2 (enA P) := by
    constructor
    · rintro ⟨j, h1, rfl⟩; exact mem_getD h1
    · intro h
      obtain ⟨j, h1, h2⟩ := List.getElem_of_mem h
      exact ⟨j, h1, by simp [List.getD, h1, h2]⟩
  rw [e1, (sP_perm cf2 (enA P)).mem_iff]
  simp [enA]
theorem arcL_len (P : List (Int × Int × Int)) : (arcL P).length ≤ P.length := by
  have h1 := ddP_len (sP cf2 (enA P)) (sP cf2 (enA P)).length
  rw [sP_len, enA_len] at h1
  unfold arcL
  rw [sP_len, enA_len]
  exact h1
set_option maxHeartbeats 2000000 in
theorem r_precedence_evidence_arcs (nl : Bool) (l : List Spm) (tl : Tail) (P : List (Int × Int × Int)) (hPl : P.length ≤ 50000) (h : AH) : RCall Try.prog n_precedence_evidence_arcsW [.st [.sl nl l.length (sms l) tl, gl (trs P) P.length .unk]] h (gl (prs (arcL P)) (arcL P).length .unk) := by
  refine RCall.of hm cF_precedence_evidence_arcsW (by simp [g_precedence_evidence_arcsW]) fun hw h' hl => ?_
  simp only [F_precedence_evidence_arcsW, g_precedence_evidence_arcsW, go_sem, reduceIte, Nat.reduceEqDiff, Nat.reduceAdd, Nat.reduceMul, Nat.reduceSub, reduceCtorEq, Nat.reduceLeDiff, Nat.reduceLT, Int.reduceLT, Int.reduceLE, Int.reduceToNat, Int.reduceAdd, Int.reduceSub, Int.reduceNeg, Int.reduceMul, Int.reduceEq, ← Bool.decide_and, ← Bool.decide_or, ↓tq_n, ↓tq_e, ↓tq_r, ↓bq_n, ↓bq_e, ↓bq_r, ↓rq_n, ↓rq_r, ↓rq_e]
  refine awp_loop (α := Nat × AV × AH) (fun p => [(3, p.2.1), (7, gl (trs P) P.length .unk), (8, I P.length), (9, I p.1)]) (fun p => p.2.2) (fun p => p.1 ≤ P.length ∧ Gr2 h' p.2.1 (enA (P.take p.1)) p.2.2) (fun p => P.length - p.1) (0, .sl true 0 [] .full, h') ⟨Nat.zero_le _, by simpa [enA] using Gr2.new h'⟩ (GStep.forget (by repeat' first | exact EnvLe.nil _ | refine EnvLe.cons (AV.le.of_eq rfl) ?_ | refine EnvLe.cons (AV.le.undef _) ?_ | refine EnvLe.cons AV.le.unk ?_) (by repeat' first | exact AH.le.refl _ | assumption | (refine AH.le_put ?_ (by first | assumption | exact (AH.blk_put_ne _ _ (by assumption)).trans (by assumption) | exact AH.none_put (by assumption) | exact AH.none_put (AH.none_put (by assumption)) | (simp only [AH.blk_setTok, AH.tok_put] at *; first | assumption | exact AH.none_put (by assumption)))) | (refine AH.le_setTok ?_ (by first | assumption | exact (AH.blk_put_ne _ _ (by assumption)).trans (by assumption) | exact AH.none_put (by assumption) | exact AH.none_put (AH.none_put (by assumption)) | (simp only [AH.blk_setTok, AH.tok_put] at *; first | assumption | exact AH.none_put (by assumption)))) | (refine AH.le_putM ?_ (by first | assumption | exact (AH.mp_putM_ne _ _ (by assumption)).trans (by assumption) | (simp only [AH.mp_put, AH.mp_setTok] at *; assumption))))) fun p hp => .of_vg hm ?_
  obtain ⟨j, x, H⟩ := p
  obtain ⟨h3, h4⟩ := hp
  simp only at h3 h4 ⊢
  by_cases h5 : j < P.length
  · have hc : (j : Int) < (P.length : Int) := by omega
    have hel : (enA (P.take j)).length ≤ 100000 := by rw [enA_len, List.length_take]; omega
    simp only [hc, trs_drop h5, F_precedence_evidence_arcsW, g_precedence_evidence_arcsW, go_sem, reduceIte, Nat.reduceEqDiff, Nat.reduceAdd, Nat.reduceMul, Nat.reduceSub, reduceCtorEq, Nat.reduceLeDiff, Nat.reduceLT, Int.reduceLT, Int.reduceLE, Int.reduceToNat, Int.reduceAdd, Int.reduceSub, Int.reduceNeg, Int.reduceMul, Int.reduceEq, ← Bool.decide_and, ← Bool.decide_or, ↓tq_n, ↓tq_e, ↓tq_r, ↓bq_n, ↓bq_e, ↓bq_r, ↓rq_n, ↓rq_r, ↓rq_e]
    refine h4.step hel (v := ((P.getD j (0, 0, 0)).2.1, (P.getD j (0, 0, 0)).2.2)) fun x' H' hk => ?_
    simp only [F_precedence_evidence_arcsW, g_precedence_evidence_arcsW, go_sem, reduceIte, Nat.reduceEqDiff, Nat.reduceAdd, Nat.reduceMul, Nat.reduceSub, reduceCtorEq, Nat.reduceLeDiff, Nat.reduceLT, Int.reduceLT, Int.reduceLE, Int.reduceToNat, Int.reduceAdd, Int.reduceSub, Int.reduceNeg, Int.reduceMul, Int.reduceEq, ← Bool.decide_and, ← Bool.decide_or, ↓tq_n, ↓tq_e, ↓tq_r, ↓bq_n, ↓bq_e, ↓bq_r, ↓rq_n, ↓rq_r, ↓rq_e]
    refine ⟨by rw [inR64]; omega, (j + 1, x', H'), ⟨by simp only; omega, ?_⟩, by simp only; omega, (GStep.forget (by repeat' first | exact EnvLe.nil _ | refine EnvLe.cons (AV.le.of_eq rfl) ?_ | refine EnvLe.cons (AV.le.undef _) ?_ | refine EnvLe.cons AV.le.unk ?_) (by repeat' first | exact AH.le.refl _ | assumption | (refine AH.le_put ?_ (by first | assumption | exact (AH.blk_put_ne _ _ (by assumption)).trans (by assumption) | exact AH.none_put (by assumption) | exact AH.none_put (AH.none_put (by assumption)) | (simp only [AH.blk_setTok, AH.tok_put] at *; first | assumption | exact AH.none_put (by assumption)))) | (refine AH.le_setTok ?_ (by first | assumption | exact (AH.blk_put_ne _ _ (by assumption)).trans (by assumption) | exact AH.none_put (by assumption) | exact AH.none_put (AH.none_put (by assumption)) | (simp only [AH.blk_setTok, AH.tok_put] at *; first | assumption | exact AH.none_put (by assumption)))) | (refine AH.le_putM ?_ (by first | assumption | exact (AH.mp_putM_ne _ _ (by assumption)).trans (by assumption) | (simp only [AH.mp_put, AH.mp_setTok] at *; assumption)))))⟩
    simp only [enA_succ P h5]
    exact hk
  have h5 : j = P.length := by omega
  subst h5
  rw [List.take_length] at h4
  rcases h4 with ⟨hle, ⟨hz, rfl⟩ | ⟨hne, b, q, rfl, hq, hb, hn⟩⟩
  · simp only [F_precedence_evidence_arcsW, g_precedence_evidence_arcsW, go_sem, reduceIte, Nat.reduceEqDiff, Nat.reduceAdd, Nat.reduceMul, Nat.reduceSub, reduceCtorEq, Nat.reduceLeDiff, Nat.reduceLT, Int.reduceLT, Int.reduceLE, Int.reduceToNat, Int.reduceAdd, Int.reduceSub, Int.reduceNeg, Int.reduceMul, Int.reduceEq, ← Bool.decide_and, ← Bool.decide_or, ↓tq_n, ↓tq_e, ↓tq_r, ↓bq_n, ↓bq_e, ↓bq_r, ↓rq_n, ↓rq_r, ↓rq_e]
    refine CallS.mk (s_slices_SortFunc_Arc0 true .full _) fun r H' hr => ?_
    obtain ⟨rfl, rfl⟩ := hr
    simp only [F_precedence_evidence_arcsW, g_precedence_evidence_arcsW, go_sem, reduceIte, Nat.reduceEqDiff, Nat.reduceAdd, Nat.reduceMul, Nat.reduceSub, reduceCtorEq, Nat.reduceLeDiff, Nat.reduceLT, Int.reduceLT, Int.reduceLE, Int.reduceToNat, Int.reduceAdd, Int.reduceSub, Int.reduceNeg, Int.reduceMul, Int.reduceEq, ← Bool.decide_and, ← Bool.decide_or, ↓tq_n, ↓tq_e, ↓tq_r, ↓bq_n, ↓bq_e, ↓bq_r, ↓rq_n, ↓rq_r, ↓rq_e]
    refine CallS.mk (r_slices_Compact0 true .full _) fun r H' hr => ?_
    obtain ⟨rfl, rfl⟩ := hr
    simp only [F_precedence_evidence_arcsW, g_precedence_evidence_arcsW, go_sem, reduceIte, Nat.reduceEqDiff, Nat.reduceAdd, Nat.reduceMul, Nat.reduceSub, reduceCtorEq, Nat.reduceLeDiff, Nat.reduceLT, Int.reduceLT, Int.reduceLE, Int.reduceToNat, Int.reduceAdd, Int.reduceSub, Int.reduceNeg, Int.reduceMul, Int.reduceEq, ← Bool.decide_and, ← Bool.decide_or, ↓tq_n, ↓tq_e, ↓tq_r, ↓bq_n, ↓bq_e, ↓bq_r, ↓rq_n, ↓rq_r, ↓rq_e]
    have e0 : arcL P = [] := by
      have hP0 : P = [] := List.eq_nil_of_length_eq_zero (by have := enA_len P; rw [hz] at this; simpa using this.symm)
      have := arcL_len P
      rw [hP0] at this
      rw [hP0]
      exact List.eq_nil_of_length_eq_zero (by simpa using this)
    rw [e0]
    exact ret_le hle AV.le.unk
  · have hpos : 1 ≤ (enA P).length := by
      rcases Nat.eq_zero_or_pos (enA P).length with h0 | h0
      · exact absurd (List.eq_nil_of_length_eq_zero h0) hne
      · exact h0
    have hsl := sP_len cf2 (enA P)
    have hel := enA_len P
    simp only [F_precedence_evidence_arcsW, g_precedence_evidence_arcsW, go_sem, reduceIte, Nat.reduceEqDiff, Nat.reduceAdd, Nat.reduceMul, Nat.reduceSub, reduceCtorEq, Nat.reduceLeDiff, Nat.reduceLT, Int.reduceLT, Int.reduceLE, Int.reduceToNat, Int.reduceAdd, Int.reduceSub, Int.reduceNeg, Int.reduceMul, Int.reduceEq, ← Bool.decide_and, ← Bool.decide_or, ↓tq_n, ↓tq_e, ↓tq_r, ↓bq_n, ↓bq_e, ↓bq_r, ↓rq_n, ↓rq_r, ↓rq_e]
    refine CallS.mk (s_slices_SortFunc_Arc hb rfl (by omega)) fun r H' hr => ?_
    obtain ⟨rfl, rfl⟩ := hr
    simp only [F_precedence_evidence_arcsW, g_precedence_evidence_arcsW, go_sem, reduceIte, Nat.reduceEqDiff, Nat.reduceAdd, Nat.reduceMul, Nat.reduceSub, reduceCtorEq, Nat.reduceLeDiff, Nat.reduceLT, Int.reduceLT, Int.reduceLE, Int.reduceToNat, Int.reduceAdd, Int.reduceSub, Int.reduceNeg, Int.reduceMul, Int.reduceEq, ← Bool.decide_and, ← Bool.decide_or, ↓tq_n, ↓tq_e, ↓tq_r, ↓bq_n, ↓bq_e, ↓bq_r, ↓rq_n, ↓rq_r, ↓rq_e]
    rw [← hsl]
    refine CallS.mk (s_slices_Compact_Arc (sP cf2 (enA P)) (by omega) (by omega) (q := q) (by omega) (AH.blk_put _ _ _)) fun r H' hr => ?_
    obtain ⟨rfl, rfl⟩ := hr
    simp only [F_precedence_evidence_arcsW, g_precedence_evidence_arcsW, go_sem, reduceIte, Nat.reduceEqDiff, Nat.reduceAdd, Nat.reduceMul, Nat.reduceSub, reduceCtorEq, Nat.reduceLeDiff, Nat.reduceLT, Int.reduceLT, Int.reduceLE, Int.reduceToNat, Int.reduceAdd, Int.reduceSub, Int.reduceNeg, Int.reduceMul, Int.reduceEq, ← Bool.decide_and, ← Bool.decide_or, ↓tq_n, ↓tq_e, ↓tq_r, ↓bq_n, ↓bq_e, ↓bq_r, ↓rq_n, ↓rq_r, ↓rq_e]
    have hd0 : (arcL P).length ≠ 0 := fun hh => by
      have h0 := List.eq_nil_of_length_eq_zero hh
      have hm0 := (ddP_mem (sP cf2 (enA P)) (sP cf2 (enA P)).length ((sP cf2 (enA P)).getD 0 (0, 0))).2 ⟨0, by omega, rfl⟩
      have : arcL P = ddP (sP cf2 (enA P)) (sP cf2 (enA P)).length := rfl
      rw [← this, h0] at hm0
      simp at hm0
    have e1 : gl (prs (arcL P)) (arcL P).length .unk = .sl false (arcL P).length (prs (arcL P)) .unk := by
      unfold gl; rw [decide_eq_false hd0]
    rw [e1]
    refine ret_le (h0 := h') ?_ (AV.le.refl _)
    refine ⟨fun c cs e => ?_, hle.tok, hle.mp⟩
    have hcb : c ≠ b := fun hh => by subst hh; rw [hn] at e; cases e
    simp only [AH.del, AH.put]
    rw [if_neg hcb, if_neg hcb]
    exact hle.blk c cs e
end Go.Proofs.Ytndcbompcnlhmaa
