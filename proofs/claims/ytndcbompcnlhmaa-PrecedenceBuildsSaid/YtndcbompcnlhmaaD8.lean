/- Calls of functions of this seat's program: Build, Consistent, Add, Closed. No condition. -/
import Derived.Test.YtndcbompcnlhmaaD5
import Derived.Test.YtndcbompcnlhmaaD6
import Derived.Test.YtndcbompcnlhmaaR9
namespace Go.Proofs.Ytndcbompcnlhmaa
open Go Go.Abs
set_option linter.unusedSimpArgs false
set_option linter.unusedVariables false
set_option maxRecDepth 20000

/-- What Build returns. -/
def blV (l : List Spm) (c : List (Int × Int)) : AV := if gaE l c = 0 then .tup [gl (prs (arcL (pcs l c))) (arcL (pcs l c)).length .unk, I 0] else .tup [.sl true 0 [] .full, I (gaE l c)]
theorem gaV_no {nl : Bool} {l : List Spm} {tl : Tail} {c : List (Int × Int)} (h : ¬ gaE l c = 0) : gaV nl l tl c = .tup [.st [.sl true 0 [] .full, .sl true 0 [] .full], I (gaE l c)] := by unfold gaV; rw [if_neg h]
theorem gaV_yes {nl : Bool} {l : List Spm} {tl : Tail} {c : List (Int × Int)} (h : gaE l c = 0) : gaV nl l tl c = .tup [.st [.sl nl l.length (sms l) tl, gl (trs (pcs l c)) (pcs l c).length .unk], I 0] := by unfold gaV; rw [if_pos h]
theorem r_precedence_Build (nl : Bool) (l : List Spm) (tl : Tail) (n2 : Bool) (c : List (Int × Int)) (u2 : Tail) (h : AH) : RCall Try.prog n_precedence_Build [.sl nl l.length (sms l) tl, .sl n2 c.length (prs c) u2] h (blV l c) := by
  refine RCall.of hm cF_precedence_Build (by simp [g_precedence_Build]) fun hw h' hl => ?_
  simp only [F_precedence_Build, g_precedence_Build, go_sem, reduceIte, Nat.reduceEqDiff, Nat.reduceAdd, Nat.reduceMul, Nat.reduceSub, reduceCtorEq, Nat.reduceLeDiff, Nat.reduceLT, Int.reduceLT, Int.reduceLE, Int.reduceToNat, Int.reduceAdd, Int.reduceSub, Int.reduceNeg, Int.reduceMul, Int.reduceEq, ← Bool.decide_and, ← Bool.decide_or, ↓tq_n, ↓tq_e, ↓tq_r, ↓bq_n, ↓bq_e, ↓bq_r, ↓rq_n, ↓rq_r, ↓rq_e]
  refine CallG.mk (r_precedence_gather nl l tl n2 c u2 _) ?_
  by_cases c1 : gaE l c = 0
  case neg =>
    rw [gaV_no c1]
    simp only [c1, F_precedence_Build, g_precedence_Build, go_sem, reduceIte, Nat.reduceEqDiff, Nat.reduceAdd, Nat.reduceMul, Nat.reduceSub, reduceCtorEq, Nat.reduceLeDiff, Nat.reduceLT, Int.reduceLT, Int.reduceLE, Int.reduceToNat, Int.reduceAdd, Int.reduceSub, Int.reduceNeg, Int.reduceMul, Int.reduceEq, ← Bool.decide_and, ← Bool.decide_or, ↓tq_n, ↓tq_e, ↓tq_r, ↓bq_n, ↓bq_e, ↓bq_r, ↓rq_n, ↓rq_r, ↓rq_e]
    exact ret_ok (by unfold blV; rw [if_neg c1])
  rw [gaV_yes c1]
  have g4 := (ga_ok c1).2.2.2.1
  simp only [F_precedence_Build, g_precedence_Build, go_sem, reduceIte, Nat.reduceEqDiff, Nat.reduceAdd, Nat.reduceMul, Nat.reduceSub, reduceCtorEq, Nat.reduceLeDiff, Nat.reduceLT, Int.reduceLT, Int.reduceLE, Int.reduceToNat, Int.reduceAdd, Int.reduceSub, Int.reduceNeg, Int.reduceMul, Int.reduceEq, ← Bool.decide_and, ← Bool.decide_or, ↓tq_n, ↓tq_e, ↓tq_r, ↓bq_n, ↓bq_e, ↓bq_r, ↓rq_n, ↓rq_r, ↓rq_e]
  refine CallG.mk (r_precedence_evidence_arcs nl l tl (pcs l c) (by omega) _) ?_
  simp only [F_precedence_Build, g_precedence_Build, go_sem, reduceIte, Nat.reduceEqDiff, Nat.reduceAdd, Nat.reduceMul, Nat.reduceSub, reduceCtorEq, Nat.reduceLeDiff, Nat.reduceLT, Int.reduceLT, Int.reduceLE, Int.reduceToNat, Int.reduceAdd, Int.reduceSub, Int.reduceNeg, Int.reduceMul, Int.reduceEq, ← Bool.decide_and, ← Bool.decide_or, ↓tq_n, ↓tq_e, ↓tq_r, ↓bq_n, ↓bq_e, ↓bq_r, ↓rq_n, ↓rq_r, ↓rq_e]
  exact ret_ok (by unfold blV; rw [if_pos c1])
/-- The arcs are a digraph. -/
theorem dg_arcL {l : List Spm} {c : List (Int × Int)} (h : gaE l c = 0) : Dg l.length (arcL (pcs l c)) := by
  obtain ⟨g1, g2, g3, g4, g5, g6, g7⟩ := ga_ok h
  refine ⟨by omega, by omega, fun i hi => ⟨?_, fun h0 => ?_⟩⟩
  · obtain ⟨p, hp, e⟩ := mem_arcL.1 (mem_getD (d := (0, 0)) hi)
    rw [← e]
    have hr := g3 p hp
    refine ⟨hr.1.1, hr.1.2, hr.2.1, hr.2.2, ?_⟩
    simp only
    rcases mem_pcs.1 hp with ⟨s, hs, a, k, h1, h2, h3, rfl⟩ | ⟨q, hq, rfl⟩
    · simp only
      intro hh
      have : a = k := by omega
      subst this
      unfold bfS at h3
      split at h3 <;> simp at h3
    · exact (g7 q hq).2
  · have h1 := List.pairwise_iff_getElem.1 (arcL_asc (pcs l c)) (i - 1) i (by omega) hi (by omega)
    have e1 : (arcL (pcs l c)).getD i (0, 0) = (arcL (pcs l c))[i] := by simp [List.getD, hi]
    have e2 : (arcL (pcs l c)).getD (i - 1) (0, 0) = (arcL (pcs l c))[i - 1] := by simp [List.getD, show i - 1 < (arcL (pcs l c)).length by omega]
    rw [e1, e2]
    exact h1
/-- Whether the evidence agrees. -/
def acB (l : List Spm) (c : List (Int × Int)) : Bool := acI (posR l.length (arcL (pcs l c))) l.length
def csV (l : List Spm) (c : List (Int × Int)) : AV := .tup [.bool (decide (gaE l c = 0) && acB l c), I (gaE l c)]
theorem r_precedence_Consistent (nl : Bool) (l : List Spm) (tl : Tail) (n2 : Bool) (c : List (Int × Int)) (u2 : Tail) (h : AH) : RCall Try.prog n_precedence_Consistent [.sl nl l.length (sms l) tl, .sl n2 c.length (prs c) u2] h (csV l c) := by
  refine RCall.of hm cF_precedence_Consistent (by simp [g_precedence_Consistent]) fun hw h' hl => ?_
  simp only [F_precedence_Consistent, g_precedence_Consistent, go_sem, reduceIte, Nat.reduceEqDiff, Nat.reduceAdd, Nat.reduceMul, Nat.reduceSub, reduceCtorEq, Nat.reduceLeDiff, Nat.reduceLT, Int.reduceLT, Int.reduceLE, Int.reduceToNat, Int.reduceAdd, Int.reduceSub, Int.reduceNeg, Int.reduceMul, Int.reduceEq, ← Bool.decide_and, ← Bool.decide_or, ↓tq_n, ↓tq_e, ↓tq_r, ↓bq_n, ↓bq_e, ↓bq_r, ↓rq_n, ↓rq_r, ↓rq_e]
  refine CallG.mk (r_precedence_Build nl l tl n2 c u2 _) ?_
  by_cases c1 : gaE l c = 0
  case neg =>
    have e1 : blV l c = .tup [.sl true 0 [] .full, I (gaE l c)] := by unfold blV; rw [if_neg c1]
    rw [e1]
    simp only [c1, F_precedence_Consistent, g_precedence_Consistent, go_sem, reduceIte, Nat.reduceEqDiff, Nat.reduceAdd, Nat.reduceMul, Nat.reduceSub, reduceCtorEq, Nat.reduceLeDiff, Nat.reduceLT, Int.reduceLT, Int.reduceLE, Int.reduceToNat, Int.reduceAdd, Int.reduceSub, Int.reduceNeg, Int.reduceMul, Int.reduceEq, ← Bool.decide_and, ← Bool.decide_or, ↓tq_n, ↓tq_e, ↓tq_r, ↓bq_n, ↓bq_e, ↓bq_r, ↓rq_n, ↓rq_r, ↓rq_e]
    exact ret_ok (by unfold csV; rw [decide_eq_false c1]; rfl)
  have e1 : blV l c = .tup [gl (prs (arcL (pcs l c))) (arcL (pcs l c)).length .unk, I 0] := by unfold blV; rw [if_pos c1]
  have g4 := (ga_ok c1).2.2.2.1
  have g5 := arcL_len (pcs l c)
  rw [e1]
  simp only [F_precedence_Consistent, g_precedence_Consistent, go_sem, reduceIte, Nat.reduceEqDiff, Nat.reduceAdd, Nat.reduceMul, Nat.reduceSub, reduceCtorEq, Nat.reduceLeDiff, Nat.reduceLT, Int.reduceLT, Int.reduceLE, Int.reduceToNat, Int.reduceAdd, Int.reduceSub, Int.reduceNeg, Int.reduceMul, Int.reduceEq, ← Bool.decide_and, ← Bool.decide_or, ↓tq_n, ↓tq_e, ↓tq_r, ↓bq_n, ↓bq_e, ↓bq_r, ↓rq_n, ↓rq_r, ↓rq_e]
  refine CallG.mk (r_poset_Acyclic l.length (decide ((arcL (pcs l c)).length = 0)) (arcL (pcs l c)) .unk (by omega) _) ?_
  simp only [F_precedence_Consistent, g_precedence_Consistent, go_sem, reduceIte, Nat.reduceEqDiff, Nat.reduceAdd, Nat.reduceMul, Nat.reduceSub, reduceCtorEq, Nat.reduceLeDiff, Nat.reduceLT, Int.reduceLT, Int.reduceLE, Int.reduceToNat, Int.reduceAdd, Int.reduceSub, Int.reduceNeg, Int.reduceMul, Int.reduceEq, ← Bool.decide_and, ← Bool.decide_or, ↓tq_n, ↓tq_e, ↓tq_r, ↓bq_n, ↓bq_e, ↓bq_r, ↓rq_n, ↓rq_r, ↓rq_e]
  exact ret_ok (by unfold csV; rw [c1, decide_eq_true (dg_arcL c1)]; rfl)
theorem r_precedence_Add (nl : Bool) (l : List Spm) (tl : Tail) (n2 : Bool) (c : List (Int × Int)) (u2 : Tail) (x : Int × Int) (hcl : c.length ≤ 1000) (h : AH) : RCall Try.prog n_precedence_Add [.sl nl l.length (sms l) tl, .sl n2 c.length (prs c) u2, .st [I x.1, I x.2]] h (csV l (c ++ [x])) := by
  refine RCall.of hm cF_precedence_Add (by simp [g_precedence_Add]) fun hw h' hl => ?_
  have htk : (prs c).take (c.length * 2) = prs c := List.take_of_length_le (by rw [prs_len]; exact Nat.le_refl _)
  simp only [Nat.sub_zero, htk, F_precedence_Add, g_precedence_Add, go_sem, reduceIte, Nat.reduceEqDiff, Nat.reduceAdd, Nat.reduceMul, Nat.reduceSub, reduceCtorEq, Nat.reduceLeDiff, Nat.reduceLT, Int.reduceLT, Int.reduceLE, Int.reduceToNat, Int.reduceAdd, Int.reduceSub, Int.reduceNeg, Int.reduceMul, Int.reduceEq, ← Bool.decide_and, ← Bool.decide_or, ↓tq_n, ↓tq_e, ↓tq_r, ↓bq_n, ↓bq_e, ↓bq_r, ↓rq_n, ↓rq_r, ↓rq_e]
  refine ⟨Nat.zero_le _, by rw [prs_len], by omega, by omega, TokG.mk fun t ht => ?_⟩
  simp only [F_precedence_Add, g_precedence_Add, go_sem, reduceIte, Nat.reduceEqDiff, Nat.reduceAdd, Nat.reduceMul, Nat.reduceSub, reduceCtorEq, Nat.reduceLeDiff, Nat.reduceLT, Int.reduceLT, Int.reduceLE, Int.reduceToNat, Int.reduceAdd, Int.reduceSub, Int.reduceNeg, Int.reduceMul, Int.reduceEq, ← Bool.decide_and, ← Bool.decide_or, ↓tq_n, ↓tq_e, ↓tq_r, ↓bq_n, ↓bq_e, ↓bq_r, ↓rq_n, ↓rq_r, ↓rq_e]
  have e := r_precedence_Consistent nl l tl (n2 && false) (c ++ [x]) (.tok t) (h'.setTok t (c.length + 1) 2)
  rw [List.length_append, prs_snoc1] at e
  refine CallG.mk e ?_
  unfold csV
  simp only [F_precedence_Add, g_precedence_Add, go_sem, reduceIte, Nat.reduceEqDiff, Nat.reduceAdd, Nat.reduceMul, Nat.reduceSub, reduceCtorEq, Nat.reduceLeDiff, Nat.reduceLT, Int.reduceLT, Int.reduceLE, Int.reduceToNat, Int.reduceAdd, Int.reduceSub, Int.reduceNeg, Int.reduceMul, Int.reduceEq, ← Bool.decide_and, ← Bool.decide_or, ↓tq_n, ↓tq_e, ↓tq_r, ↓bq_n, ↓bq_e, ↓bq_r, ↓rq_n, ↓rq_r, ↓rq_e]
  exact ret_hb (by repeat' first | exact AH.le.refl _ | assumption | (refine AH.le_put ?_ (by first | assumption | exact (AH.blk_put_ne _ _ (by assumption)).trans (by assumption) | exact AH.none_put (by assumption) | exact AH.none_put (AH.none_put (by assumption)) | (simp only [AH.blk_setTok, AH.tok_put] at *; first | assumption | exact AH.none_put (by assumption)))) | (refine AH.le_setTok ?_ (by first | assumption | exact (AH.blk_put_ne _ _ (by assumption)).trans (by assumption) | exact AH.none_put (by assumption) | exact AH.none_put (AH.none_put (by assumption)) | (simp only [AH.blk_setTok, AH.tok_put] at *; first | assumption | exact AH.none_put (by assumption)))) | (refine AH.le_putM ?_ (by first | assumption | exact (AH.mp_putM_ne _ _ (by assumption)).trans (by assumption) | (simp only [AH.mp_put, AH.mp_setTok] at *; assumption)))) rfl
theorem mem_lsK {r : List Nat} {i : Nat} {x : Int × Int} : ∀ {k : Nat}, x ∈ lsK r i k ↔ ∃ j : Nat, j < k ∧ i ≠ j ∧ bt r i j = true ∧ x = ((i : Int), (j : Int)) := by
  intro k
  induction k with
  | zero => simp [lsK]
  | succ k ih =>
    rw [lsK, List.mem_append, ih]
    constructor
    · rintro (⟨j, h1, h2, h3, h4⟩ | h)
      · exact ⟨j, by omega, h2, h3, h4⟩
      · split at h
        · rename_i hc
          simp at h
          exact ⟨k, by omega, hc.1, hc.2, h⟩
        · simp at h
    · rintro ⟨j, h1, h2, h3, h4⟩
      rcases Nat.lt_succ_iff_lt_or_eq.1 h1 with h1 | rfl
      · exact .inl ⟨j, h1, h2, h3, h4⟩
      · exact .inr (by rw [if_pos ⟨h2, h3⟩]; simp [h4])
theorem mem_lsI {r : List Nat} {x : Int × Int} : ∀ {i : Nat}, x ∈ lsI r i ↔ ∃ a j : Nat, a < i ∧ j < r.length ∧ a ≠ j ∧ bt r a j = true ∧ x = ((a : Int), (j : Int)) := by
  intro i
  induction i with
  | zero => simp [lsI]
  | succ i ih =>
    rw [lsI, List.mem_append, ih, mem_lsK]
    constructor
    · rintro (⟨a, j, h1, h2⟩ | ⟨j, h1, h2⟩)
      · exact ⟨a, j, by omega, h2⟩
      · exact ⟨i, j, by omega, h1, h2⟩
    · rintro ⟨a, j, h1, h2⟩
      rcases Nat.lt_succ_iff_lt_or_eq.1 h1 with h1 | rfl
      · exact .inl ⟨a, j, h1, h2⟩
      · exact .inr ⟨j, h2⟩
/-- The pairs of Ids along paths. -/
def clI (l : List Spm) (c : List (Int × Int)) : List (Int × Int) := lsI (posR l.length (arcL (pcs l c))) l.length
def idP (l : List Spm) (x : Int × Int) : Int × Int := (idA l x.1, idA l x.2)
def clL (l : List Spm) (c : List (Int × Int)) : List (Int × Int) := sP cf2 ((clI l c).map (idP l))
def clV (l : List Spm) (c : List (Int × Int)) : AV := if gaE l c = 0 then .tup [gl (prs (clL l c)) (clL l c).length .unk, I 0] else .tup [.sl true 0 [] .full, I (gaE l c)]
theorem clI_len {l : List Spm} (c : List (Int × Int)) (h : l.length ≤ 24) : (clI l c).length ≤ 576 := by
  have h1 := lsI_len (posR l.length (arcL (pcs l c))) l.length
  rw [posR_len] at h1
  have h2 : l.length * l.length ≤ 24 * 24 := Nat.mul_le_mul h h
  unfold clI
  omega
theorem clL_len {l : List Spm} (c : List (Int × Int)) (h : l.length ≤ 24) : (clL l c).length ≤ 576 := by
  unfold clL
  rw [sP_len, List.length_map]
  exact clI_len c h
set_option maxHeartbeats 2000000 in
theorem r_precedence_Closed (nl : Bool) (l : List Spm) (tl : Tail) (n2 : Bool) (c : List (Int × Int)) (u2 : Tail) (h : AH) : RCall Try.prog n_precedence_ClosedW [.sl nl l.length (sms l) tl, .sl n2 c.length (prs c) u2] h (clV l c) := by
  refine RCall.of hm cF_precedence_ClosedW (by simp [g_precedence_ClosedW]) fun hw h' hl => ?_
  simp only [F_precedence_ClosedW, g_precedence_ClosedW, go_sem, reduceIte, Nat.reduceEqDiff, Nat.reduceAdd, Nat.reduceMul, Nat.reduceSub, reduceCtorEq, Nat.reduceLeDiff, Nat.reduceLT, Int.reduceLT, Int.reduceLE, Int.reduceToNat, Int.reduceAdd, Int.reduceSub, Int.reduceNeg, Int.reduceMul, Int.reduceEq, ← Bool.decide_and, ← Bool.decide_or, ↓tq_n, ↓tq_e, ↓tq_r, ↓bq_n, ↓bq_e, ↓bq_r, ↓rq_n, ↓rq_r, ↓rq_e]
  refine CallG.mk (r_precedence_Build nl l tl n2 c u2 _) ?_
  by_cases c1 : gaE l c = 0
  case neg =>
    have e1 : blV l c = .tup [.sl true 0 [] .full, I (gaE l c)] := by unfold blV; rw [if_neg c1]
    rw [e1]
    simp only [c1, F_precedence_ClosedW, g_precedence_ClosedW, go_sem, reduceIte, Nat.reduceEqDiff, Nat.reduceAdd, Nat.reduceMul, Nat.reduceSub, reduceCtorEq, Nat.reduceLeDiff, Nat.reduceLT, Int.reduceLT, Int.reduceLE, Int.reduceToNat, Int.reduceAdd, Int.reduceSub, Int.reduceNeg, Int.reduceMul, Int.reduceEq, ← Bool.decide_and, ← Bool.decide_or, ↓tq_n, ↓tq_e, ↓tq_r, ↓bq_n, ↓bq_e, ↓bq_r, ↓rq_n, ↓rq_r, ↓rq_e]
    exact ret_ok (by unfold clV; rw [if_neg c1])
  have e1 : blV l c = .tup [gl (prs (arcL (pcs l c))) (arcL (pcs l c)).length .unk, I 0] := by unfold blV; rw [if_pos c1]
  have e2 : clV l c = .tup [gl (prs (clL l c)) (clL l c).length .unk, I 0] := by unfold clV; rw [if_pos c1]
  have g4 := (ga_ok c1).2.2.2.1
  have hl24 := (ga_ok c1).1
  have g5 := arcL_len (pcs l c)
  rw [e1, e2]
  simp only [F_precedence_ClosedW, g_precedence_ClosedW, go_sem, reduceIte, Nat.reduceEqDiff, Nat.reduceAdd, Nat.reduceMul, Nat.reduceSub, reduceCtorEq, Nat.reduceLeDiff, Nat.reduceLT, Int.reduceLT, Int.reduceLE, Int.reduceToNat, Int.reduceAdd, Int.reduceSub, Int.reduceNeg, Int.reduceMul, Int.reduceEq, ← Bool.decide_and, ← Bool.decide_or, ↓tq_n, ↓tq_e, ↓tq_r, ↓bq_n, ↓bq_e, ↓bq_r, ↓rq_n, ↓rq_r, ↓rq_e]
  refine CallG.mk (r_poset_Closure l.length (decide ((arcL (pcs l c)).length = 0)) (arcL (pcs l c)) .unk (by omega) _) ?_
  rw [if_pos (dg_arcL c1)]
  have hcl := clI_len c hl24
  have hmem : ∀ x ∈ clI l c, ∃ a k : Nat, a < l.length ∧ k < l.length ∧ x = ((a : Int), (k : Int)) := fun x hx => by
    obtain ⟨a, k, h1, h2, h3, h4, h5⟩ := mem_lsI.1 hx
    rw [posR_len] at h2
    exact ⟨a, k, h1, h2, h5⟩
  have hcle : lsI (posR l.length (arcL (pcs l c))) l.length = clI l c := rfl
  have hclL : clL l c = sP cf2 ((clI l c).map (idP l)) := rfl
  rw [hcle]
  rw [hclL]
  obtain ⟨A, hA⟩ : ∃ A, A = clI l c := ⟨_, rfl⟩
  rw [← hA] at hcl hmem ⊢
  simp only [F_precedence_ClosedW, g_precedence_ClosedW, go_sem, reduceIte, Nat.reduceEqDiff, Nat.reduceAdd, Nat.reduceMul, Nat.reduceSub, reduceCtorEq, Nat.reduceLeDiff, Nat.reduceLT, Int.reduceLT, Int.reduceLE, Int.reduceToNat, Int.reduceAdd, Int.reduceSub, Int.reduceNeg, Int.reduceMul, Int.reduceEq, ← Bool.decide_and, ← Bool.decide_or, ↓tq_n, ↓tq_e, ↓tq_r, ↓bq_n, ↓bq_e, ↓bq_r, ↓rq_n, ↓rq_r, ↓rq_e]
  refine awp_loop (α := Nat × AV × AH) (fun p => [(0, .sl nl l.length (sms l) tl), (10, p.2.1), (29, gl (prs A) A.length .unk), (30, I A.length), (31, I p.1)]) (fun p => p.2.2) (fun p => p.1 ≤ A.length ∧ Gr2 h' p.2.1 ((A.take p.1).map (idP l)) p.2.2) (fun p => A.length - p.1) (0, .sl true 0 [] .full, h') ⟨Nat.zero_le _, by simpa using Gr2.new h'⟩ (GStep.forget (by repeat' first | exact EnvLe.nil _ | refine EnvLe.cons (AV.le.of_eq rfl) ?_ | refine EnvLe.cons (AV.le.undef _) ?_ | refine EnvLe.cons AV.le.unk ?_) (by repeat' first | exact AH.le.refl _ | assumption | (refine AH.le_put ?_ (by first | assumption | exact (AH.blk_put_ne _ _ (by assumption)).trans (by assumption) | exact AH.none_put (by assumption) | exact AH.none_put (AH.none_put (by assumption)) | (simp only [AH.blk_setTok, AH.tok_put] at *; first | assumption | exact AH.none_put (by assumption)))) | (refine AH.le_setTok ?_ (by first | assumption | exact (AH.blk_put_ne _ _ (by assumption)).trans (by assumption) | exact AH.none_put (by assumption) | exact AH.none_put (AH.none_put (by assumption)) | (simp only [AH.blk_setTok, AH.tok_put] at *; first | assumption | exact AH.none_put (by assumption)))) | (refine AH.le_putM ?_ (by first | assumption | exact (AH.mp_putM_ne _ _ (by assumption)).trans (by assumption) | (simp only [AH.mp_put, AH.mp_setTok] at *; assumption))))) fun p hp => .of_vg hm ?_
  obtain ⟨j, x, H⟩ := p
  obtain ⟨h3, h4⟩ := hp
  simp only at h3 h4 ⊢
  by_cases h5 : j < A.length
  · have hc : (j : Int) < (A.length : Int) := by omega
    have hel : ((A.take j).map (idP l)).length ≤ 100000 := by rw [List.length_map, List.length_take]; omega
    have hdr := prs_drop h5
    obtain ⟨a, k, ha, hk, hak⟩ := hmem _ (mem_getD (d := (0, 0)) h5)
    have hsucc : (A.take (j + 1)).map (idP l) = (A.take j).map (idP l) ++ [((l.getD a dS).id, (l.getD k dS).id)] := by
      rw [take_getD (0, 0) h5, List.map_append, hak]
      simp [idP, idA]
    rw [hak] at hdr
    simp only at hdr
    have hac : (a : Int) < (l.length : Int) := by omega
    have hkc : (k : Int) < (l.length : Int) := by omega
    have ha0 : (0 : Int) ≤ (a : Int) := by omega
    have hk0 : (0 : Int) ≤ (k : Int) := by omega
    simp only [hc, hdr, hac, hkc, ha0, hk0, sms_drop ha, sms_drop hk, F_precedence_ClosedW, g_precedence_ClosedW, go_sem, reduceIte, Nat.reduceEqDiff, Nat.reduceAdd, Nat.reduceMul, Nat.reduceSub, reduceCtorEq, Nat.reduceLeDiff, Nat.reduceLT, Int.reduceLT, Int.reduceLE, Int.reduceToNat, Int.reduceAdd, Int.reduceSub, Int.reduceNeg, Int.reduceMul, Int.reduceEq, ← Bool.decide_and, ← Bool.decide_or, ↓tq_n, ↓tq_e, ↓tq_r, ↓bq_n, ↓bq_e, ↓bq_r, ↓rq_n, ↓rq_r, ↓rq_e]
    refine h4.step hel (v := ((l.getD a dS).id, (l.getD k dS).id)) fun x' H' hk' => ?_
    simp only [F_precedence_ClosedW, g_precedence_ClosedW, go_sem, reduceIte, Nat.reduceEqDiff, Nat.reduceAdd, Nat.reduceMul, Nat.reduceSub, reduceCtorEq, Nat.reduceLeDiff, Nat.reduceLT, Int.reduceLT, Int.reduceLE, Int.reduceToNat, Int.reduceAdd, Int.reduceSub, Int.reduceNeg, Int.reduceMul, Int.reduceEq, ← Bool.decide_and, ← Bool.decide_or, ↓tq_n, ↓tq_e, ↓tq_r, ↓bq_n, ↓bq_e, ↓bq_r, ↓rq_n, ↓rq_r, ↓rq_e]
    refine ⟨by rw [inR64]; omega, (j + 1, x', H'), ⟨by simp only; omega, ?_⟩, by simp only; omega, (GStep.forget (by repeat' first | exact EnvLe.nil _ | refine EnvLe.cons (AV.le.of_eq rfl) ?_ | refine EnvLe.cons (AV.le.undef _) ?_ | refine EnvLe.cons AV.le.unk ?_) (by repeat' first | exact AH.le.refl _ | assumption | (refine AH.le_put ?_ (by first | assumption | exact (AH.blk_put_ne _ _ (by assumption)).trans (by assumption) | exact AH.none_put (by assumption) | exact AH.none_put (AH.none_put (by assumption)) | (simp only [AH.blk_setTok, AH.tok_put] at *; first | assumption | exact AH.none_put (by assumption)))) | (refine AH.le_setTok ?_ (by first | assumption | exact (AH.blk_put_ne _ _ (by assumption)).trans (by assumption) | exact AH.none_put (by assumption) | exact AH.none_put (AH.none_put (by assumption)) | (simp only [AH.blk_setTok, AH.tok_put] at *; first | assumption | exact AH.none_put (by assumption)))) | (refine AH.le_putM ?_ (by first | assumption | exact (AH.mp_putM_ne _ _ (by assumption)).trans (by assumption) | (simp only [AH.mp_put, AH.mp_setTok] at *; assumption)))))⟩
    simp only [hsucc]
    exact hk'
  have h5 : j = A.length := by omega
  subst h5
  rw [List.take_length] at h4
  rcases h4 with ⟨hle, ⟨hz, rfl⟩ | ⟨hne, b, q, rfl, hq, hb, hn⟩⟩
  · simp only [F_precedence_ClosedW, g_precedence_ClosedW, go_sem, reduceIte, Nat.reduceEqDiff, Nat.reduceAdd, Nat.reduceMul, Nat.reduceSub, reduceCtorEq, Nat.reduceLeDiff, Nat.reduceLT, Int.reduceLT, Int.reduceLE, Int.reduceToNat, Int.reduceAdd, Int.reduceSub, Int.reduceNeg, Int.reduceMul, Int.reduceEq, ← Bool.decide_and, ← Bool.decide_or, ↓tq_n, ↓tq_e, ↓tq_r, ↓bq_n, ↓bq_e, ↓bq_r, ↓rq_n, ↓rq_r, ↓rq_e]
    refine CallS.mk (s_slices_SortFunc_Pair0 true .full _) fun r H' hr => ?_
    obtain ⟨rfl, rfl⟩ := hr
    simp only [F_precedence_ClosedW, g_precedence_ClosedW, go_sem, reduceIte, Nat.reduceEqDiff, Nat.reduceAdd, Nat.reduceMul, Nat.reduceSub, reduceCtorEq, Nat.reduceLeDiff, Nat.reduceLT, Int.reduceLT, Int.reduceLE, Int.reduceToNat, Int.reduceAdd, Int.reduceSub, Int.reduceNeg, Int.reduceMul, Int.reduceEq, ← Bool.decide_and, ← Bool.decide_or, ↓tq_n, ↓tq_e, ↓tq_r, ↓bq_n, ↓bq_e, ↓bq_r, ↓rq_n, ↓rq_r, ↓rq_e]
    refine ret_le hle ?_
    have e0 : sP cf2 ([] : List (Int × Int)) = [] := List.eq_nil_of_length_eq_zero (by rw [sP_len]; rfl)
    rw [hz, e0]
    exact AV.le.tupC (.cons AV.le.unk (.cons (AV.le.refl _) .nil))
  · have hpos : 0 < (sP cf2 (A.map (idP l))).length := by
      rw [sP_len]
      rcases Nat.eq_zero_or_pos (A.map (idP l)).length with h0 | h0
      · exact absurd (List.eq_nil_of_length_eq_zero h0) hne
      · exact h0
    have hsl := sP_len cf2 (A.map (idP l))
    have hml : (A.map (idP l)).length = A.length := by simp
    simp only [F_precedence_ClosedW, g_precedence_ClosedW, go_sem, reduceIte, Nat.reduceEqDiff, Nat.reduceAdd, Nat.reduceMul, Nat.reduceSub, reduceCtorEq, Nat.reduceLeDiff, Nat.reduceLT, Int.reduceLT, Int.reduceLE, Int.reduceToNat, Int.reduceAdd, Int.reduceSub, Int.reduceNeg, Int.reduceMul, Int.reduceEq, ← Bool.decide_and, ← Bool.decide_or, ↓tq_n, ↓tq_e, ↓tq_r, ↓bq_n, ↓bq_e, ↓bq_r, ↓rq_n, ↓rq_r, ↓rq_e]
    refine CallS.mk (s_slices_SortFunc_Pair hb rfl (by omega)) fun r H' hr => ?_
    obtain ⟨rfl, rfl⟩ := hr
    simp only [F_precedence_ClosedW, g_precedence_ClosedW, go_sem, reduceIte, Nat.reduceEqDiff, Nat.reduceAdd, Nat.reduceMul, Nat.reduceSub, reduceCtorEq, Nat.reduceLeDiff, Nat.reduceLT, Int.reduceLT, Int.reduceLE, Int.reduceToNat, Int.reduceAdd, Int.reduceSub, Int.reduceNeg, Int.reduceMul, Int.reduceEq, ← Bool.decide_and, ← Bool.decide_or, ↓tq_n, ↓tq_e, ↓tq_r, ↓bq_n, ↓bq_e, ↓bq_r, ↓rq_n, ↓rq_r, ↓rq_e]
    have hfx := RGh.fix (n := (A.map (idP l)).length) (cap := some q) (AH.blk_put H b (prs (sP cf2 (A.map (idP l))) ++ List.replicate ((q - (A.map (idP l)).length) * 2) AV.undef)) 2
    rw [List.take_append_of_le_length (by rw [prs_len, sP_len]; exact Nat.le_refl _), List.take_of_length_le (by rw [prs_len, sP_len]; exact Nat.le_refl _)] at hfx
    refine ⟨_, h', (RGh.tupAt («as» := []) hfx).trans (RGh.forget (AV.le.refl _) (le_del (AH.le_put hle hn) hn)), ?_, rfl⟩
    rw [gl_pos hpos, hsl]
    rfl
end Go.Proofs.Ytndcbompcnlhmaa
