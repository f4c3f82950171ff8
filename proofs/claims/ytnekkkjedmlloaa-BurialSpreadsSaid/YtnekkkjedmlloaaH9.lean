/- Calls of functions of this seat's program: numbers of coins, the hoards with a type, the first one and the spread. No condition. -/
import Derived.Test.YtnekkkjedmlloaaH5
namespace Go.Proofs.Ytnekkkjedmlloaa
open Go Go.Abs
set_option linter.unusedSimpArgs false
set_option linter.unusedVariables false
set_option maxRecDepth 20000

def numI (x : Hd) (k : Int) : Int := if Hv x then (val x.coins k).getD 0 else 0
theorem r_hoard_Number (x : Hd) (k : Int) (h : AH) : RCall Try.prog n_hoard_Number [.st x.cs, I k] h (I (numI x k)) := by
  refine RCall.of hm cF_hoard_Number (by simp [g_hoard_Number]) fun hw h' hl => ?_
  simp only [Hd.cs, F_hoard_Number, g_hoard_Number, go_sem, reduceIte, Nat.reduceEqDiff, Nat.reduceAdd, Nat.reduceMul, Nat.reduceSub, reduceCtorEq, Nat.reduceLeDiff, Nat.reduceLT, Int.reduceLT, Int.reduceLE, Int.reduceToNat, Int.reduceAdd, Int.reduceSub, Int.reduceNeg, Int.reduceMul, Int.reduceEq, ← Bool.decide_and, ← Bool.decide_or, ↓tq_n, ↓tq_e, ↓tq_r, ↓bq_n, ↓bq_e, ↓bq_r, ↓rq_n, ↓rq_r, ↓rq_e]
  refine CallG.mk (r_hoard_Valid x _) ?_
  by_cases h1 : Hv x
  case neg =>
    simp only [decide_eq_false h1, F_hoard_Number, g_hoard_Number, go_sem, reduceIte, Nat.reduceEqDiff, Nat.reduceAdd, Nat.reduceMul, Nat.reduceSub, reduceCtorEq, Nat.reduceLeDiff, Nat.reduceLT, Int.reduceLT, Int.reduceLE, Int.reduceToNat, Int.reduceAdd, Int.reduceSub, Int.reduceNeg, Int.reduceMul, Int.reduceEq, ← Bool.decide_and, ← Bool.decide_or, ↓tq_n, ↓tq_e, ↓tq_r, ↓bq_n, ↓bq_e, ↓bq_r, ↓rq_n, ↓rq_r, ↓rq_e]
    exact ret_ok (by simp [numI, h1])
  simp only [decide_eq_true h1, F_hoard_Number, g_hoard_Number, go_sem, reduceIte, Nat.reduceEqDiff, Nat.reduceAdd, Nat.reduceMul, Nat.reduceSub, reduceCtorEq, Nat.reduceLeDiff, Nat.reduceLT, Int.reduceLT, Int.reduceLE, Int.reduceToNat, Int.reduceAdd, Int.reduceSub, Int.reduceNeg, Int.reduceMul, Int.reduceEq, ← Bool.decide_and, ← Bool.decide_or, ↓tq_n, ↓tq_e, ↓tq_r, ↓bq_n, ↓bq_e, ↓bq_r, ↓rq_n, ↓rq_r, ↓rq_e]
  refine CallG.mk (r_hoard_value _ x.coins _ k _) ?_
  simp only [F_hoard_Number, g_hoard_Number, go_sem, reduceIte, Nat.reduceEqDiff, Nat.reduceAdd, Nat.reduceMul, Nat.reduceSub, reduceCtorEq, Nat.reduceLeDiff, Nat.reduceLT, Int.reduceLT, Int.reduceLE, Int.reduceToNat, Int.reduceAdd, Int.reduceSub, Int.reduceNeg, Int.reduceMul, Int.reduceEq, ← Bool.decide_and, ← Bool.decide_or, ↓tq_n, ↓tq_e, ↓tq_r, ↓bq_n, ↓bq_e, ↓bq_r, ↓rq_n, ↓rq_r, ↓rq_e]
  exact ret_ok (by simp [numI, h1])
theorem fndL_none {t : List (Int × Int)} {k : Int} (h : val t k = none) : ∀ i, i ≤ t.length → fndL t k i = [] := by
  have hi : ¬ 0 ≤ idx t k := fun hh => by simp [val, hh] at h
  intro i
  induction i with
  | zero => intro _; rfl
  | succ i ih => intro hl; rw [fndL, if_neg (idx_none hi i (by omega)), ih (by omega)]
theorem fndL_sum {x : Hd} (hv : Hv x) (k : Int) : (fndL x.coins k x.coins.length).sum = numI x k ∧ ∀ i, i ≤ x.coins.length → 0 ≤ (fndL x.coins k i).sum ∧ (fndL x.coins k i).sum ≤ 999 * i := by
  have hc := cn_iff.1 hv.2.2.1
  refine ⟨?_, fun i => ?_⟩
  · unfold numI
    rw [if_pos hv]
    cases h : val x.coins k with
    | none => rw [fndL_none h _ (Nat.le_refl _)]; rfl
    | some y => rw [(fndL_val (or_asc hc.1) h).2]; simp
  · induction i with
    | zero => intro _; simp [fndL]
    | succ i ih =>
      intro hl
      have := ih (by omega)
      have h2 := (hc.2 i (by omega)).2
      unfold fndL
      split
      · rw [List.sum_append]; simp only [List.sum_cons, List.sum_nil]; omega
      · omega
theorem r_ref_Number (x : Hd) (k : Int) (h : AH) : RCall Try.prog n_ref_Number [.st x.cs, I k] h (I (numI x k)) := by
  refine RCall.of hm cF_ref_Number (by simp [g_ref_Number]) fun hw h' hl => ?_
  simp only [Hd.cs, F_ref_Number, g_ref_Number, go_sem, reduceIte, Nat.reduceEqDiff, Nat.reduceAdd, Nat.reduceMul, Nat.reduceSub, reduceCtorEq, Nat.reduceLeDiff, Nat.reduceLT, Int.reduceLT, Int.reduceLE, Int.reduceToNat, Int.reduceAdd, Int.reduceSub, Int.reduceNeg, Int.reduceMul, Int.reduceEq, ← Bool.decide_and, ← Bool.decide_or, ↓tq_n, ↓tq_e, ↓tq_r, ↓bq_n, ↓bq_e, ↓bq_r, ↓rq_n, ↓rq_r, ↓rq_e]
  by_cases h1 : Hv x
  case neg =>
    refine awp_loop (fun _ : Nat => [(1, I k), (2, .sptr x.cs), (5, I 0), (6, I 0)]) (fun _ => h') (fun _ => True) (fun i => i) 0 trivial (GStep.forget (by repeat' first | exact EnvLe.nil _ | refine EnvLe.cons (AV.le.of_eq rfl) ?_ | refine EnvLe.cons (AV.le.undef _) ?_ | refine EnvLe.cons AV.le.unk ?_) (by repeat' first | exact AH.le.refl _ | assumption | (refine AH.le_put ?_ (by first | assumption | exact (AH.blk_put_ne _ _ (by assumption)).trans (by assumption) | exact AH.none_put (by assumption) | exact AH.none_put (AH.none_put (by assumption)) | (simp only [AH.blk_setTok, AH.tok_put] at *; first | assumption | exact AH.none_put (by assumption)))) | (refine AH.le_setTok ?_ (by first | assumption | exact (AH.blk_put_ne _ _ (by assumption)).trans (by assumption) | exact AH.none_put (by assumption) | exact AH.none_put (AH.none_put (by assumption)) | (simp only [AH.blk_setTok, AH.tok_put] at *; first | assumption | exact AH.none_put (by assumption)))) | (refine AH.le_putM ?_ (by first | assumption | exact (AH.mp_putM_ne _ _ (by assumption)).trans (by assumption) | (simp only [AH.mp_put, AH.mp_setTok] at *; assumption))))) fun i hi => .of_vg hm ?_
    by_cases h2 : (0 : Int) < (x.coins.length : Int)
    · simp only [Hd.cs, h2, F_ref_Number, g_ref_Number, go_sem, reduceIte, Nat.reduceEqDiff, Nat.reduceAdd, Nat.reduceMul, Nat.reduceSub, reduceCtorEq, Nat.reduceLeDiff, Nat.reduceLT, Int.reduceLT, Int.reduceLE, Int.reduceToNat, Int.reduceAdd, Int.reduceSub, Int.reduceNeg, Int.reduceMul, Int.reduceEq, ← Bool.decide_and, ← Bool.decide_or, ↓tq_n, ↓tq_e, ↓tq_r, ↓bq_n, ↓bq_e, ↓bq_r, ↓rq_n, ↓rq_r, ↓rq_e]
      refine CallG.mk (r_base_Hoard x _) ?_
      simp only [decide_eq_false h1, F_ref_Number, g_ref_Number, go_sem, reduceIte, Nat.reduceEqDiff, Nat.reduceAdd, Nat.reduceMul, Nat.reduceSub, reduceCtorEq, Nat.reduceLeDiff, Nat.reduceLT, Int.reduceLT, Int.reduceLE, Int.reduceToNat, Int.reduceAdd, Int.reduceSub, Int.reduceNeg, Int.reduceMul, Int.reduceEq, ← Bool.decide_and, ← Bool.decide_or, ↓tq_n, ↓tq_e, ↓tq_r, ↓bq_n, ↓bq_e, ↓bq_r, ↓rq_n, ↓rq_r, ↓rq_e]
      exact ret_ok (by simp [numI, h1])
    · simp only [Hd.cs, h2, F_ref_Number, g_ref_Number, go_sem, reduceIte, Nat.reduceEqDiff, Nat.reduceAdd, Nat.reduceMul, Nat.reduceSub, reduceCtorEq, Nat.reduceLeDiff, Nat.reduceLT, Int.reduceLT, Int.reduceLE, Int.reduceToNat, Int.reduceAdd, Int.reduceSub, Int.reduceNeg, Int.reduceMul, Int.reduceEq, ← Bool.decide_and, ← Bool.decide_or, ↓tq_n, ↓tq_e, ↓tq_r, ↓bq_n, ↓bq_e, ↓bq_r, ↓rq_n, ↓rq_r, ↓rq_e]
      exact ret_ok (by simp [numI, h1])
  obtain ⟨f1, f2⟩ := fndL_sum h1 k
  have hl32 := h1.2.1.2
  refine awp_loop (fun i : Nat => [(1, I k), (2, .sptr x.cs), (5, I (fndL x.coins k i).sum), (6, I i)]) (fun _ => h') (fun i => i ≤ x.coins.length) (fun i => x.coins.length - i) 0 (Nat.zero_le _) (GStep.forget (by repeat' first | exact EnvLe.nil _ | refine EnvLe.cons (AV.le.of_eq rfl) ?_ | refine EnvLe.cons (AV.le.undef _) ?_ | refine EnvLe.cons AV.le.unk ?_) (by repeat' first | exact AH.le.refl _ | assumption | (refine AH.le_put ?_ (by first | assumption | exact (AH.blk_put_ne _ _ (by assumption)).trans (by assumption) | exact AH.none_put (by assumption) | exact AH.none_put (AH.none_put (by assumption)) | (simp only [AH.blk_setTok, AH.tok_put] at *; first | assumption | exact AH.none_put (by assumption)))) | (refine AH.le_setTok ?_ (by first | assumption | exact (AH.blk_put_ne _ _ (by assumption)).trans (by assumption) | exact AH.none_put (by assumption) | exact AH.none_put (AH.none_put (by assumption)) | (simp only [AH.blk_setTok, AH.tok_put] at *; first | assumption | exact AH.none_put (by assumption)))) | (refine AH.le_putM ?_ (by first | assumption | exact (AH.mp_putM_ne _ _ (by assumption)).trans (by assumption) | (simp only [AH.mp_put, AH.mp_setTok] at *; assumption))))) fun i hi => .of_vg hm ?_
  by_cases h3 : i < x.coins.length
  · have hc : (i : Int) < (x.coins.length : Int) := by omega
    have hb := f2 i (by omega)
    have hb2 := f2 (i + 1) (by omega)
    simp only [Hd.cs, hc, F_ref_Number, g_ref_Number, go_sem, reduceIte, Nat.reduceEqDiff, Nat.reduceAdd, Nat.reduceMul, Nat.reduceSub, reduceCtorEq, Nat.reduceLeDiff, Nat.reduceLT, Int.reduceLT, Int.reduceLE, Int.reduceToNat, Int.reduceAdd, Int.reduceSub, Int.reduceNeg, Int.reduceMul, Int.reduceEq, ← Bool.decide_and, ← Bool.decide_or, ↓tq_n, ↓tq_e, ↓tq_r, ↓bq_n, ↓bq_e, ↓bq_r, ↓rq_n, ↓rq_r, ↓rq_e]
    refine CallG.mk (r_base_Hoard x _) ?_
    by_cases h4 : (x.coins.getD i (0, 0)).1 = k
    · have e1 : (fndL x.coins k (i + 1)).sum = (fndL x.coins k i).sum + (x.coins.getD i (0, 0)).2 := by rw [fndL, if_pos h4, List.sum_append]; simp
      simp only [decide_eq_true h1, Hd.cs, hc, prs_drop h3, h4, F_ref_Number, g_ref_Number, go_sem, reduceIte, Nat.reduceEqDiff, Nat.reduceAdd, Nat.reduceMul, Nat.reduceSub, reduceCtorEq, Nat.reduceLeDiff, Nat.reduceLT, Int.reduceLT, Int.reduceLE, Int.reduceToNat, Int.reduceAdd, Int.reduceSub, Int.reduceNeg, Int.reduceMul, Int.reduceEq, ← Bool.decide_and, ← Bool.decide_or, ↓tq_n, ↓tq_e, ↓tq_r, ↓bq_n, ↓bq_e, ↓bq_r, ↓rq_n, ↓rq_r, ↓rq_e]
      refine ⟨by rw [inR64]; omega, by rw [inR64]; omega, i + 1, by omega, by omega, ?_⟩
      rw [e1]
      exact (GStep.forget (by repeat' first | exact EnvLe.nil _ | refine EnvLe.cons (AV.le.of_eq rfl) ?_ | refine EnvLe.cons (AV.le.undef _) ?_ | refine EnvLe.cons AV.le.unk ?_) (by repeat' first | exact AH.le.refl _ | assumption | (refine AH.le_put ?_ (by first | assumption | exact (AH.blk_put_ne _ _ (by assumption)).trans (by assumption) | exact AH.none_put (by assumption) | exact AH.none_put (AH.none_put (by assumption)) | (simp only [AH.blk_setTok, AH.tok_put] at *; first | assumption | exact AH.none_put (by assumption)))) | (refine AH.le_setTok ?_ (by first | assumption | exact (AH.blk_put_ne _ _ (by assumption)).trans (by assumption) | exact AH.none_put (by assumption) | exact AH.none_put (AH.none_put (by assumption)) | (simp only [AH.blk_setTok, AH.tok_put] at *; first | assumption | exact AH.none_put (by assumption)))) | (refine AH.le_putM ?_ (by first | assumption | exact (AH.mp_putM_ne _ _ (by assumption)).trans (by assumption) | (simp only [AH.mp_put, AH.mp_setTok] at *; assumption)))))
    · have e1 : (fndL x.coins k (i + 1)).sum = (fndL x.coins k i).sum := by rw [fndL, if_neg h4]
      simp only [decide_eq_true h1, Hd.cs, hc, prs_drop h3, h4, F_ref_Number, g_ref_Number, go_sem, reduceIte, Nat.reduceEqDiff, Nat.reduceAdd, Nat.reduceMul, Nat.reduceSub, reduceCtorEq, Nat.reduceLeDiff, Nat.reduceLT, Int.reduceLT, Int.reduceLE, Int.reduceToNat, Int.reduceAdd, Int.reduceSub, Int.reduceNeg, Int.reduceMul, Int.reduceEq, ← Bool.decide_and, ← Bool.decide_or, ↓tq_n, ↓tq_e, ↓tq_r, ↓bq_n, ↓bq_e, ↓bq_r, ↓rq_n, ↓rq_r, ↓rq_e]
      refine ⟨by rw [inR64]; omega, i + 1, by omega, by omega, ?_⟩
      rw [e1]
      exact (GStep.forget (by repeat' first | exact EnvLe.nil _ | refine EnvLe.cons (AV.le.of_eq rfl) ?_ | refine EnvLe.cons (AV.le.undef _) ?_ | refine EnvLe.cons AV.le.unk ?_) (by repeat' first | exact AH.le.refl _ | assumption | (refine AH.le_put ?_ (by first | assumption | exact (AH.blk_put_ne _ _ (by assumption)).trans (by assumption) | exact AH.none_put (by assumption) | exact AH.none_put (AH.none_put (by assumption)) | (simp only [AH.blk_setTok, AH.tok_put] at *; first | assumption | exact AH.none_put (by assumption)))) | (refine AH.le_setTok ?_ (by first | assumption | exact (AH.blk_put_ne _ _ (by assumption)).trans (by assumption) | exact AH.none_put (by assumption) | exact AH.none_put (AH.none_put (by assumption)) | (simp only [AH.blk_setTok, AH.tok_put] at *; first | assumption | exact AH.none_put (by assumption)))) | (refine AH.le_putM ?_ (by first | assumption | exact (AH.mp_putM_ne _ _ (by assumption)).trans (by assumption) | (simp only [AH.mp_put, AH.mp_setTok] at *; assumption)))))
  · have h3 : i = x.coins.length := by omega
    subst h3
    simp only [Hd.cs, F_ref_Number, g_ref_Number, go_sem, reduceIte, Nat.reduceEqDiff, Nat.reduceAdd, Nat.reduceMul, Nat.reduceSub, reduceCtorEq, Nat.reduceLeDiff, Nat.reduceLT, Int.reduceLT, Int.reduceLE, Int.reduceToNat, Int.reduceAdd, Int.reduceSub, Int.reduceNeg, Int.reduceMul, Int.reduceEq, ← Bool.decide_and, ← Bool.decide_or, ↓tq_n, ↓tq_e, ↓tq_r, ↓bq_n, ↓bq_e, ↓bq_r, ↓rq_n, ↓rq_r, ↓rq_e]
    exact ret_ok (by rw [f1])

/-- The hoards with a type, among the first i. -/
def havI (l : List Hd) (k : Int) : Nat → List Nat
  | 0 => []
  | i + 1 => if 0 < numI (l.getD i dH) k then havI l k i ++ [i] else havI l k i
theorem havI_len (l : List Hd) (k : Int) : ∀ i, (havI l k i).length ≤ i := by
  intro i
  induction i with
  | zero => simp [havI]
  | succ i ih =>
    unfold havI
    split
    · simp only [List.length_append, List.length_singleton]; omega
    · omega
theorem mem_havI {l : List Hd} {k : Int} {x : Nat} : ∀ {n : Nat}, x ∈ havI l k n ↔ x < n ∧ 0 < numI (l.getD x dH) k := by
  intro n
  induction n with
  | zero => simp [havI]
  | succ n ih =>
    unfold havI
    split
    · rename_i hc
      rw [List.mem_append, ih, List.mem_singleton]
      constructor
      · rintro (⟨a, b⟩ | rfl)
        · exact ⟨by omega, b⟩
        · exact ⟨by omega, hc⟩
      · rintro ⟨a, b⟩
        rcases lt_succ_cases a with a | rfl
        · exact .inl ⟨a, b⟩
        · exact .inr rfl
    · rename_i hc
      rw [ih]
      constructor
      · rintro ⟨a, b⟩; exact ⟨by omega, b⟩
      · rintro ⟨a, b⟩
        rcases lt_succ_cases a with a | rfl
        · exact ⟨a, b⟩
        · exact absurd b hc
def hav (l : List Hd) (k : Int) : List Nat := havI l k l.length
def havQ (l : List Hd) (k : Int) : Int := if chk l ≠ 0 then chk l else if hav l k = [] then 7 else 0
def havV (l : List Hd) (k : Int) : AV := if havQ l k = 0 then .tup [gl (i64s (nats (hav l k))) (hav l k).length .unk, I 0] else .tup [.sl true 0 [] .full, I (havQ l k)]
theorem havQ_ok {l : List Hd} {k : Int} (h : havQ l k = 0) : chk l = 0 ∧ hav l k ≠ [] := by
  unfold havQ at h
  split at h
  · rename_i h1; exact absurd h h1
  · rename_i h1
    split at h
    · cases h
    · rename_i h2; exact ⟨Classical.byContradiction h1, h2⟩

theorem r_burial_having (n1 : Bool) (l : List Hd) (u1 : Tail) (k : Int) (h : AH) : RCall Try.prog n_burial_having [.sl n1 l.length (hds l) u1, I k] h (havV l k) := by
  refine RCall.of hm cF_burial_having (by simp [g_burial_having]) fun hw h' hl => ?_
  simp only [F_burial_having, g_burial_having, go_sem, reduceIte, Nat.reduceEqDiff, Nat.reduceAdd, Nat.reduceMul, Nat.reduceSub, reduceCtorEq, Nat.reduceLeDiff, Nat.reduceLT, Int.reduceLT, Int.reduceLE, Int.reduceToNat, Int.reduceAdd, Int.reduceSub, Int.reduceNeg, Int.reduceMul, Int.reduceEq, ← Bool.decide_and, ← Bool.decide_or, ↓tq_n, ↓tq_e, ↓tq_r, ↓bq_n, ↓bq_e, ↓bq_r, ↓rq_n, ↓rq_r, ↓rq_e]
  refine CallG.mk (r_burial_check n1 l u1 _) ?_
  by_cases h1 : chk l = 0
  case neg =>
    simp only [h1, F_burial_having, g_burial_having, go_sem, reduceIte, Nat.reduceEqDiff, Nat.reduceAdd, Nat.reduceMul, Nat.reduceSub, reduceCtorEq, Nat.reduceLeDiff, Nat.reduceLT, Int.reduceLT, Int.reduceLE, Int.reduceToNat, Int.reduceAdd, Int.reduceSub, Int.reduceNeg, Int.reduceMul, Int.reduceEq, ← Bool.decide_and, ← Bool.decide_or, ↓tq_n, ↓tq_e, ↓tq_r, ↓bq_n, ↓bq_e, ↓bq_r, ↓rq_n, ↓rq_r, ↓rq_e]
    exact ret_ok (by simp [havV, havQ, h1])
  obtain ⟨l8, hvl⟩ := chk_vls h1
  simp only [h1, F_burial_having, g_burial_having, go_sem, reduceIte, Nat.reduceEqDiff, Nat.reduceAdd, Nat.reduceMul, Nat.reduceSub, reduceCtorEq, Nat.reduceLeDiff, Nat.reduceLT, Int.reduceLT, Int.reduceLE, Int.reduceToNat, Int.reduceAdd, Int.reduceSub, Int.reduceNeg, Int.reduceMul, Int.reduceEq, ← Bool.decide_and, ← Bool.decide_or, ↓tq_n, ↓tq_e, ↓tq_r, ↓bq_n, ↓bq_e, ↓bq_r, ↓rq_n, ↓rq_r, ↓rq_e]
  refine awp_tok 7 1 (nl := true) (n := 0) (cs := []) rfl fun tk ht => ?_
  refine awp_loop (fun i : Nat => [(1, I k), (7, gl (i64s (nats (havI l k i))) (havI l k i).length (.tok tk)), (15, .sl n1 l.length (hds l) u1), (16, I l.length), (17, I i)]) (fun i => h'.setTok tk (havI l k i).length 1) (fun i => i ≤ l.length) (fun i => l.length - i) 0 (Nat.zero_le _) (GStep.forget (by repeat' first | exact EnvLe.nil _ | refine EnvLe.cons (AV.le.of_eq rfl) ?_ | refine EnvLe.cons (AV.le.undef _) ?_ | refine EnvLe.cons AV.le.unk ?_) (by repeat' first | exact AH.le.refl _ | assumption | (refine AH.le_put ?_ (by first | assumption | exact (AH.blk_put_ne _ _ (by assumption)).trans (by assumption) | exact AH.none_put (by assumption) | exact AH.none_put (AH.none_put (by assumption)) | (simp only [AH.blk_setTok, AH.tok_put] at *; first | assumption | exact AH.none_put (by assumption)))) | (refine AH.le_setTok ?_ (by first | assumption | exact (AH.blk_put_ne _ _ (by assumption)).trans (by assumption) | exact AH.none_put (by assumption) | exact AH.none_put (AH.none_put (by assumption)) | (simp only [AH.blk_setTok, AH.tok_put] at *; first | assumption | exact AH.none_put (by assumption)))) | (refine AH.le_putM ?_ (by first | assumption | exact (AH.mp_putM_ne _ _ (by assumption)).trans (by assumption) | (simp only [AH.mp_put, AH.mp_setTok] at *; assumption))))) fun i hi => .of_vg hm ?_
  by_cases h5 : i < l.length
  · have hc : (i : Int) < (l.length : Int) := by omega
    have hil := havI_len l k i
    simp only [hc, hds_drop h5, F_burial_having, g_burial_having, go_sem, reduceIte, Nat.reduceEqDiff, Nat.reduceAdd, Nat.reduceMul, Nat.reduceSub, reduceCtorEq, Nat.reduceLeDiff, Nat.reduceLT, Int.reduceLT, Int.reduceLE, Int.reduceToNat, Int.reduceAdd, Int.reduceSub, Int.reduceNeg, Int.reduceMul, Int.reduceEq, ← Bool.decide_and, ← Bool.decide_or, ↓tq_n, ↓tq_e, ↓tq_r, ↓bq_n, ↓bq_e, ↓bq_r, ↓rq_n, ↓rq_r, ↓rq_e]
    refine CallG.mk (r_hoard_Number (l.getD i dH) k _) ?_
    by_cases h6 : 0 < numI (l.getD i dH) k
    · have e1 : havI l k (i + 1) = havI l k i ++ [i] := by rw [havI, if_pos h6]
      simp only [h6, F_burial_having, g_burial_having, go_sem, reduceIte, Nat.reduceEqDiff, Nat.reduceAdd, Nat.reduceMul, Nat.reduceSub, reduceCtorEq, Nat.reduceLeDiff, Nat.reduceLT, Int.reduceLT, Int.reduceLE, Int.reduceToNat, Int.reduceAdd, Int.reduceSub, Int.reduceNeg, Int.reduceMul, Int.reduceEq, ← Bool.decide_and, ← Bool.decide_or, ↓tq_n, ↓tq_e, ↓tq_r, ↓bq_n, ↓bq_e, ↓bq_r, ↓rq_n, ↓rq_r, ↓rq_e]
      refine ⟨by rw [i64s_len, nats_len], by omega, by omega, by rw [inR64]; omega, i + 1, by omega, by omega, ?_⟩
      simp only [e1, nats_append, i64s_append, List.length_append, List.length_singleton]
      exact (GStep.forget (by repeat' first | exact EnvLe.nil _ | refine EnvLe.cons (AV.le.of_eq rfl) ?_ | refine EnvLe.cons (AV.le.undef _) ?_ | refine EnvLe.cons AV.le.unk ?_) (by repeat' first | exact AH.le.refl _ | assumption | (refine AH.le_put ?_ (by first | assumption | exact (AH.blk_put_ne _ _ (by assumption)).trans (by assumption) | exact AH.none_put (by assumption) | exact AH.none_put (AH.none_put (by assumption)) | (simp only [AH.blk_setTok, AH.tok_put] at *; first | assumption | exact AH.none_put (by assumption)))) | (refine AH.le_setTok ?_ (by first | assumption | exact (AH.blk_put_ne _ _ (by assumption)).trans (by assumption) | exact AH.none_put (by assumption) | exact AH.none_put (AH.none_put (by assumption)) | (simp only [AH.blk_setTok, AH.tok_put] at *; first | assumption | exact AH.none_put (by assumption)))) | (refine AH.le_putM ?_ (by first | assumption | exact (AH.mp_putM_ne _ _ (by assumption)).trans (by assumption) | (simp only [AH.mp_put, AH.mp_setTok] at *; assumption)))))
    · have e1 : havI l k (i + 1) = havI l k i := by rw [havI, if_neg h6]
      simp only [h6, F_burial_having, g_burial_having, go_sem, reduceIte, Nat.reduceEqDiff, Nat.reduceAdd, Nat.reduceMul, Nat.reduceSub, reduceCtorEq, Nat.reduceLeDiff, Nat.reduceLT, Int.reduceLT, Int.reduceLE, Int.reduceToNat, Int.reduceAdd, Int.reduceSub, Int.reduceNeg, Int.reduceMul, Int.reduceEq, ← Bool.decide_and, ← Bool.decide_or, ↓tq_n, ↓tq_e, ↓tq_r, ↓bq_n, ↓bq_e, ↓bq_r, ↓rq_n, ↓rq_r, ↓rq_e]
      refine ⟨by rw [inR64]; omega, i + 1, by omega, by omega, ?_⟩
      rw [e1]
      exact (GStep.forget (by repeat' first | exact EnvLe.nil _ | refine EnvLe.cons (AV.le.of_eq rfl) ?_ | refine EnvLe.cons (AV.le.undef _) ?_ | refine EnvLe.cons AV.le.unk ?_) (by repeat' first | exact AH.le.refl _ | assumption | (refine AH.le_put ?_ (by first | assumption | exact (AH.blk_put_ne _ _ (by assumption)).trans (by assumption) | exact AH.none_put (by assumption) | exact AH.none_put (AH.none_put (by assumption)) | (simp only [AH.blk_setTok, AH.tok_put] at *; first | assumption | exact AH.none_put (by assumption)))) | (refine AH.le_setTok ?_ (by first | assumption | exact (AH.blk_put_ne _ _ (by assumption)).trans (by assumption) | exact AH.none_put (by assumption) | exact AH.none_put (AH.none_put (by assumption)) | (simp only [AH.blk_setTok, AH.tok_put] at *; first | assumption | exact AH.none_put (by assumption)))) | (refine AH.le_putM ?_ (by first | assumption | exact (AH.mp_putM_ne _ _ (by assumption)).trans (by assumption) | (simp only [AH.mp_put, AH.mp_setTok] at *; assumption)))))
  have h5 : i = l.length := by omega
  subst h5
  by_cases h6 : hav l k = []
  · have h7 : ((havI l k l.length).length : Int) = 0 := by
      have : havI l k l.length = [] := h6
      rw [this]; rfl
    simp only [h7, F_burial_having, g_burial_having, go_sem, reduceIte, Nat.reduceEqDiff, Nat.reduceAdd, Nat.reduceMul, Nat.reduceSub, reduceCtorEq, Nat.reduceLeDiff, Nat.reduceLT, Int.reduceLT, Int.reduceLE, Int.reduceToNat, Int.reduceAdd, Int.reduceSub, Int.reduceNeg, Int.reduceMul, Int.reduceEq, ← Bool.decide_and, ← Bool.decide_or, ↓tq_n, ↓tq_e, ↓tq_r, ↓bq_n, ↓bq_e, ↓bq_r, ↓rq_n, ↓rq_r, ↓rq_e]
    refine ret_hb (AH.le_setTok (.refl _) ht) ?_
    simp [havV, havQ, h1, h6]
  · have h7 : ¬ ((havI l k l.length).length : Int) = 0 := fun hh => h6 (List.eq_nil_of_length_eq_zero (by unfold hav; omega))
    simp only [h7, F_burial_having, g_burial_having, go_sem, reduceIte, Nat.reduceEqDiff, Nat.reduceAdd, Nat.reduceMul, Nat.reduceSub, reduceCtorEq, Nat.reduceLeDiff, Nat.reduceLT, Int.reduceLT, Int.reduceLE, Int.reduceToNat, Int.reduceAdd, Int.reduceSub, Int.reduceNeg, Int.reduceMul, Int.reduceEq, ← Bool.decide_and, ← Bool.decide_or, ↓tq_n, ↓tq_e, ↓tq_r, ↓bq_n, ↓bq_e, ↓bq_r, ↓rq_n, ↓rq_r, ↓rq_e]
    have hq : havQ l k = 0 := by simp [havQ, h1, h6]
    refine ret_le (AH.le_setTok (.refl _) ht) ?_
    unfold havV
    rw [if_pos hq]
    exact AV.le.tupC (.cons AV.le.glU (.cons (AV.le.refl _) .nil))

/-- The first least one. -/
def mnS (c : Nat → Int) (b : Option Nat) (x : Nat) : Option Nat := match b with
  | none => some x
  | some m => if c x < c m then some x else some m
def mnL (c : Nat → Int) (xs : List Nat) : Option Nat := xs.foldl (mnS c) none
theorem mnL_snoc (c : Nat → Int) (xs : List Nat) (x : Nat) : mnL c (xs ++ [x]) = mnS c (mnL c xs) x := by simp [mnL]
theorem rev_ind {α : Type} {P : List α → Prop} (h0 : P []) (hs : ∀ l x, P l → P (l ++ [x])) (l : List α) : P l := by
  rw [← List.reverse_reverse l]
  induction l.reverse with
  | nil => exact h0
  | cons a r ih => rw [List.reverse_cons]; exact hs _ _ ih
theorem mnL_spec (c : Nat → Int) : ∀ (xs : List Nat), xs ≠ [] → ∃ m, mnL c xs = some m ∧ m ∈ xs ∧ ∀ x ∈ xs, c m ≤ c x := by
  refine rev_ind (fun h => absurd rfl h) fun xs x ih _ => ?_
  · skip
    rw [mnL_snoc]
    by_cases h0 : xs = []
    · subst h0; exact ⟨x, rfl, by simp, by simp⟩
    · obtain ⟨m, m1, m2, m3⟩ := ih h0
      rw [m1]
      simp only [mnS]
      by_cases hc : c x < c m
      · rw [if_pos hc]
        refine ⟨x, rfl, by simp, fun z hz => ?_⟩
        rcases List.mem_append.1 hz with hz | hz
        · have := m3 z hz; omega
        · simp at hz; subst hz; omega
      · rw [if_neg hc]
        refine ⟨m, rfl, by simp [m2], fun z hz => ?_⟩
        rcases List.mem_append.1 hz with hz | hz
        · exact m3 z hz
        · simp at hz; subst hz; omega
/-- The year in which a hoard was closed at the latest. -/
def clT (l : List Hd) (i : Nat) : Int := (l.getD i dH).cl.2
def firstV (l : List Hd) (k : Int) : AV := if havQ l k = 0 then .tup [I (((mnL (clT l) (hav l k)).getD 0 : Nat) : Int), I 0] else .tup [I 0, I (havQ l k)]

theorem r_burial_First_1 (a b : Nat) (n1 : Bool) (l : List Hd) (u1 : Tail) (ha : a < l.length) (hb : b < l.length) (h : AH) :
    RCall Try.prog n_burial_First_1 [I a, I b, .sptr [.sl n1 l.length (hds l) u1]] h (I (cmpI (clT l a) (clT l b))) := by
  refine RCall.of hm cF_burial_First_1 (by simp [g_burial_First_1]) fun hw h' hl => ?_
  have h1 : (a : Int) < (l.length : Int) := by omega
  have h2 : (b : Int) < (l.length : Int) := by omega
  simp only [h1, h2, hds_drop ha, hds_drop hb, F_burial_First_1, g_burial_First_1, go_sem, reduceIte, Nat.reduceEqDiff, Nat.reduceAdd, Nat.reduceMul, Nat.reduceSub, reduceCtorEq, Nat.reduceLeDiff, Nat.reduceLT, Int.reduceLT, Int.reduceLE, Int.reduceToNat, Int.reduceAdd, Int.reduceSub, Int.reduceNeg, Int.reduceMul, Int.reduceEq, ← Bool.decide_and, ← Bool.decide_or, ↓tq_n, ↓tq_e, ↓tq_r, ↓bq_n, ↓bq_e, ↓bq_r, ↓rq_n, ↓rq_r, ↓rq_e]
  refine CallG.mk (r_cmp_Compare_int _ _ _) ?_
  simp only [F_burial_First_1, g_burial_First_1, go_sem, reduceIte, Nat.reduceEqDiff, Nat.reduceAdd, Nat.reduceMul, Nat.reduceSub, reduceCtorEq, Nat.reduceLeDiff, Nat.reduceLT, Int.reduceLT, Int.reduceLE, Int.reduceToNat, Int.reduceAdd, Int.reduceSub, Int.reduceNeg, Int.reduceMul, Int.reduceEq, ← Bool.decide_and, ← Bool.decide_or, ↓tq_n, ↓tq_e, ↓tq_r, ↓bq_n, ↓bq_e, ↓bq_r, ↓rq_n, ↓rq_r, ↓rq_e]
  exact ret_ok rfl
theorem cmpI_neg (a b : Int) : (cmpI a b < 0) = (a < b) := by
  unfold cmpI
  split
  · rename_i h; simp [h]
  · rename_i h
    split <;> simp [h]

theorem r_slices_MinFunc_int (f : FuncId) (caps : List AV) (c : Nat → Int) (n : Nat) (xs : List Nat) (hx : xs ≠ []) (hin : ∀ x ∈ xs, x < n) (hx2 : xs.length ≤ 1000) (h : AH) (hf : ∀ (a b : Nat) h, a < n → b < n → RCall Try.prog f ([I a, I b] ++ caps) h (I (cmpI (c a) (c b)))) :
    RCall Try.prog n_slices_MinFunc_int [gl (i64s (nats xs)) xs.length .unk, .fn f caps] h (I (((mnL c xs).getD 0 : Nat) : Int)) := by
  refine RCall.of hm cF_slices_MinFunc_int (by simp [g_slices_MinFunc_int]) fun hw h' hl => ?_
  have hpos : 0 < xs.length := by
    rcases Nat.eq_zero_or_pos xs.length with h0 | h0
    · exact absurd (List.eq_nil_of_length_eq_zero h0) hx
    · exact h0
  have c1 : ¬ (xs.length : Int) < 1 := by omega
  have c2 : (0 : Int) < (xs.length : Int) := by omega
  obtain ⟨x0, r0, hx0⟩ : ∃ x0 r0, xs = x0 :: r0 := by cases xs with | nil => exact absurd rfl hx | cons a b => exact ⟨a, b, rfl⟩
  have hd0 : i64s (nats xs) = I x0 :: i64s (nats r0) := by rw [hx0]; rfl
  obtain ⟨Z, hZ⟩ : ∃ Z, Z = i64s (nats xs) := ⟨_, rfl⟩
  rw [← hZ] at hd0 ⊢
  simp only [c1, c2, hd0, F_slices_MinFunc_int, g_slices_MinFunc_int, go_sem, reduceIte, Nat.reduceEqDiff, Nat.reduceAdd, Nat.reduceMul, Nat.reduceSub, reduceCtorEq, Nat.reduceLeDiff, Nat.reduceLT, Int.reduceLT, Int.reduceLE, Int.reduceToNat, Int.reduceAdd, Int.reduceSub, Int.reduceNeg, Int.reduceMul, Int.reduceEq, ← Bool.decide_and, ← Bool.decide_or, ↓tq_n, ↓tq_e, ↓tq_r, ↓bq_n, ↓bq_e, ↓bq_r, ↓rq_n, ↓rq_r, ↓rq_e]
  rw [← hd0]
  have hin2 : ∀ i, i < xs.length → xs.getD i 0 < n := fun i hi => hin _ (mem_getD hi)
  refine awp_loop (fun p : Nat × Nat => [(0, gl Z xs.length .unk), (1, .fn f caps), (5, I p.2), (6, I p.1)]) (fun _ => h') (fun p => 1 ≤ p.1 ∧ p.1 ≤ xs.length ∧ mnL c (xs.take p.1) = some p.2 ∧ p.2 < n) (fun p => xs.length - p.1) (1, x0) ⟨Nat.le_refl _, hpos, by rw [hx0]; rfl, by have := hin x0 (by rw [hx0]; simp); exact this⟩ (GStep.forget (by repeat' first | exact EnvLe.nil _ | refine EnvLe.cons (AV.le.of_eq rfl) ?_ | refine EnvLe.cons (AV.le.undef _) ?_ | refine EnvLe.cons AV.le.unk ?_) (by repeat' first | exact AH.le.refl _ | assumption | (refine AH.le_put ?_ (by first | assumption | exact (AH.blk_put_ne _ _ (by assumption)).trans (by assumption) | exact AH.none_put (by assumption) | exact AH.none_put (AH.none_put (by assumption)) | (simp only [AH.blk_setTok, AH.tok_put] at *; first | assumption | exact AH.none_put (by assumption)))) | (refine AH.le_setTok ?_ (by first | assumption | exact (AH.blk_put_ne _ _ (by assumption)).trans (by assumption) | exact AH.none_put (by assumption) | exact AH.none_put (AH.none_put (by assumption)) | (simp only [AH.blk_setTok, AH.tok_put] at *; first | assumption | exact AH.none_put (by assumption)))) | (refine AH.le_putM ?_ (by first | assumption | exact (AH.mp_putM_ne _ _ (by assumption)).trans (by assumption) | (simp only [AH.mp_put, AH.mp_setTok] at *; assumption))))) fun p hp => .of_vg hm ?_
  obtain ⟨i, m⟩ := p
  obtain ⟨p1, p2, p3, p4⟩ := hp
  simp only at p1 p2 p3 p4 ⊢
  by_cases h3 : i < xs.length
  · have hc : (i : Int) < (xs.length : Int) := by omega
    have hd : Z.drop i = I (xs.getD i 0) :: Z.drop (i + 1) := by rw [hZ, i64s_drop (by rw [nats_len]; exact h3), nats_get h3]
    have hs : mnL c (xs.take (i + 1)) = mnS c (some m) (xs.getD i 0) := by rw [take_getD 0 h3, mnL_snoc, p3]
    simp only [hc, hd, F_slices_MinFunc_int, g_slices_MinFunc_int, go_sem, reduceIte, Nat.reduceEqDiff, Nat.reduceAdd, Nat.reduceMul, Nat.reduceSub, reduceCtorEq, Nat.reduceLeDiff, Nat.reduceLT, Int.reduceLT, Int.reduceLE, Int.reduceToNat, Int.reduceAdd, Int.reduceSub, Int.reduceNeg, Int.reduceMul, Int.reduceEq, ← Bool.decide_and, ← Bool.decide_or, ↓tq_n, ↓tq_e, ↓tq_r, ↓bq_n, ↓bq_e, ↓bq_r, ↓rq_n, ↓rq_r, ↓rq_e]
    refine CallG.mk (hf (xs.getD i 0) m _ (hin2 i h3) p4) ?_
    by_cases h4 : c (xs.getD i 0) < c m
    · have h5 : cmpI (c (xs.getD i 0)) (c m) < 0 := by rw [cmpI_neg]; exact h4
      rw [mnS, if_pos h4] at hs
      simp only [hc, hd, h5, F_slices_MinFunc_int, g_slices_MinFunc_int, go_sem, reduceIte, Nat.reduceEqDiff, Nat.reduceAdd, Nat.reduceMul, Nat.reduceSub, reduceCtorEq, Nat.reduceLeDiff, Nat.reduceLT, Int.reduceLT, Int.reduceLE, Int.reduceToNat, Int.reduceAdd, Int.reduceSub, Int.reduceNeg, Int.reduceMul, Int.reduceEq, ← Bool.decide_and, ← Bool.decide_or, ↓tq_n, ↓tq_e, ↓tq_r, ↓bq_n, ↓bq_e, ↓bq_r, ↓rq_n, ↓rq_r, ↓rq_e]
      exact ⟨by rw [inR64]; omega, (i + 1, xs.getD i 0), ⟨by simp only; omega, by simp only; omega, hs, hin2 i h3⟩, by simp only; omega, (GStep.forget (by repeat' first | exact EnvLe.nil _ | refine EnvLe.cons (AV.le.of_eq rfl) ?_ | refine EnvLe.cons (AV.le.undef _) ?_ | refine EnvLe.cons AV.le.unk ?_) (by repeat' first | exact AH.le.refl _ | assumption | (refine AH.le_put ?_ (by first | assumption | exact (AH.blk_put_ne _ _ (by assumption)).trans (by assumption) | exact AH.none_put (by assumption) | exact AH.none_put (AH.none_put (by assumption)) | (simp only [AH.blk_setTok, AH.tok_put] at *; first | assumption | exact AH.none_put (by assumption)))) | (refine AH.le_setTok ?_ (by first | assumption | exact (AH.blk_put_ne _ _ (by assumption)).trans (by assumption) | exact AH.none_put (by assumption) | exact AH.none_put (AH.none_put (by assumption)) | (simp only [AH.blk_setTok, AH.tok_put] at *; first | assumption | exact AH.none_put (by assumption)))) | (refine AH.le_putM ?_ (by first | assumption | exact (AH.mp_putM_ne _ _ (by assumption)).trans (by assumption) | (simp only [AH.mp_put, AH.mp_setTok] at *; assumption)))))⟩
    · have h5 : ¬ cmpI (c (xs.getD i 0)) (c m) < 0 := by rw [cmpI_neg]; exact h4
      rw [mnS, if_neg h4] at hs
      simp only [h5, F_slices_MinFunc_int, g_slices_MinFunc_int, go_sem, reduceIte, Nat.reduceEqDiff, Nat.reduceAdd, Nat.reduceMul, Nat.reduceSub, reduceCtorEq, Nat.reduceLeDiff, Nat.reduceLT, Int.reduceLT, Int.reduceLE, Int.reduceToNat, Int.reduceAdd, Int.reduceSub, Int.reduceNeg, Int.reduceMul, Int.reduceEq, ← Bool.decide_and, ← Bool.decide_or, ↓tq_n, ↓tq_e, ↓tq_r, ↓bq_n, ↓bq_e, ↓bq_r, ↓rq_n, ↓rq_r, ↓rq_e]
      exact ⟨by rw [inR64]; omega, (i + 1, m), ⟨by simp only; omega, by simp only; omega, hs, p4⟩, by simp only; omega, (GStep.forget (by repeat' first | exact EnvLe.nil _ | refine EnvLe.cons (AV.le.of_eq rfl) ?_ | refine EnvLe.cons (AV.le.undef _) ?_ | refine EnvLe.cons AV.le.unk ?_) (by repeat' first | exact AH.le.refl _ | assumption | (refine AH.le_put ?_ (by first | assumption | exact (AH.blk_put_ne _ _ (by assumption)).trans (by assumption) | exact AH.none_put (by assumption) | exact AH.none_put (AH.none_put (by assumption)) | (simp only [AH.blk_setTok, AH.tok_put] at *; first | assumption | exact AH.none_put (by assumption)))) | (refine AH.le_setTok ?_ (by first | assumption | exact (AH.blk_put_ne _ _ (by assumption)).trans (by assumption) | exact AH.none_put (by assumption) | exact AH.none_put (AH.none_put (by assumption)) | (simp only [AH.blk_setTok, AH.tok_put] at *; first | assumption | exact AH.none_put (by assumption)))) | (refine AH.le_putM ?_ (by first | assumption | exact (AH.mp_putM_ne _ _ (by assumption)).trans (by assumption) | (simp only [AH.mp_put, AH.mp_setTok] at *; assumption)))))⟩
  · have h3 : i = xs.length := by omega
    subst h3
    rw [List.take_length] at p3
    simp only [F_slices_MinFunc_int, g_slices_MinFunc_int, go_sem, reduceIte, Nat.reduceEqDiff, Nat.reduceAdd, Nat.reduceMul, Nat.reduceSub, reduceCtorEq, Nat.reduceLeDiff, Nat.reduceLT, Int.reduceLT, Int.reduceLE, Int.reduceToNat, Int.reduceAdd, Int.reduceSub, Int.reduceNeg, Int.reduceMul, Int.reduceEq, ← Bool.decide_and, ← Bool.decide_or, ↓tq_n, ↓tq_e, ↓tq_r, ↓bq_n, ↓bq_e, ↓bq_r, ↓rq_n, ↓rq_r, ↓rq_e]
    exact ret_ok (by rw [p3]; rfl)
theorem r_burial_First (n1 : Bool) (l : List Hd) (u1 : Tail) (k : Int) (h : AH) : RCall Try.prog n_burial_First [.sl n1 l.length (hds l) u1, I k] h (firstV l k) := by
  refine RCall.of hm cF_burial_First (by simp [g_burial_First]) fun hw h' hl => ?_
  simp only [F_burial_First, g_burial_First, go_sem, reduceIte, Nat.reduceEqDiff, Nat.reduceAdd, Nat.reduceMul, Nat.reduceSub, reduceCtorEq, Nat.reduceLeDiff, Nat.reduceLT, Int.reduceLT, Int.reduceLE, Int.reduceToNat, Int.reduceAdd, Int.reduceSub, Int.reduceNeg, Int.reduceMul, Int.reduceEq, ← Bool.decide_and, ← Bool.decide_or, ↓tq_n, ↓tq_e, ↓tq_r, ↓bq_n, ↓bq_e, ↓bq_r, ↓rq_n, ↓rq_r, ↓rq_e]
  refine CallG.mk (r_burial_having n1 l u1 k _) ?_
  unfold havV firstV
  by_cases h1 : havQ l k = 0
  case neg =>
    rw [if_neg h1]
    simp only [h1, F_burial_First, g_burial_First, go_sem, reduceIte, Nat.reduceEqDiff, Nat.reduceAdd, Nat.reduceMul, Nat.reduceSub, reduceCtorEq, Nat.reduceLeDiff, Nat.reduceLT, Int.reduceLT, Int.reduceLE, Int.reduceToNat, Int.reduceAdd, Int.reduceSub, Int.reduceNeg, Int.reduceMul, Int.reduceEq, ← Bool.decide_and, ← Bool.decide_or, ↓tq_n, ↓tq_e, ↓tq_r, ↓bq_n, ↓bq_e, ↓bq_r, ↓rq_n, ↓rq_r, ↓rq_e]
    exact ret_ok (by first | rfl | simp [h1])
  obtain ⟨q1, q2⟩ := havQ_ok h1
  obtain ⟨l8, _⟩ := chk_vls q1
  have hlen := havI_len l k l.length
  rw [if_pos h1]
  simp only [F_burial_First, g_burial_First, go_sem, reduceIte, Nat.reduceEqDiff, Nat.reduceAdd, Nat.reduceMul, Nat.reduceSub, reduceCtorEq, Nat.reduceLeDiff, Nat.reduceLT, Int.reduceLT, Int.reduceLE, Int.reduceToNat, Int.reduceAdd, Int.reduceSub, Int.reduceNeg, Int.reduceMul, Int.reduceEq, ← Bool.decide_and, ← Bool.decide_or, ↓tq_n, ↓tq_e, ↓tq_r, ↓bq_n, ↓bq_e, ↓bq_r, ↓rq_n, ↓rq_r, ↓rq_e]
  refine CallG.mk (r_slices_MinFunc_int 61 [.sptr [.sl n1 l.length (hds l) u1]] (clT l) l.length (hav l k) q2 (fun x hx => (mem_havI.1 hx).1) (by unfold hav; omega) _ fun a b h ha hb => r_burial_First_1 a b n1 l u1 ha hb h) ?_
  simp only [F_burial_First, g_burial_First, go_sem, reduceIte, Nat.reduceEqDiff, Nat.reduceAdd, Nat.reduceMul, Nat.reduceSub, reduceCtorEq, Nat.reduceLeDiff, Nat.reduceLT, Int.reduceLT, Int.reduceLE, Int.reduceToNat, Int.reduceAdd, Int.reduceSub, Int.reduceNeg, Int.reduceMul, Int.reduceEq, ← Bool.decide_and, ← Bool.decide_or, ↓tq_n, ↓tq_e, ↓tq_r, ↓bq_n, ↓bq_e, ↓bq_r, ↓rq_n, ↓rq_r, ↓rq_e]
  exact ret_ok (by rw [if_pos h1])
end Go.Proofs.Ytnekkkjedmlloaa
