/- Calls of functions of this seat's program: Agrees, and the years and the order of the reference. No condition. -/
import Derived.Test.YtnekkkjedmlloaaH3
namespace Go.Proofs.Ytnekkkjedmlloaa
open Go Go.Abs
set_option linter.unusedSimpArgs false
set_option linter.unusedVariables false
set_option maxRecDepth 20000

/-- What the reference appends. -/
def fndL (t : List (Int × Int)) (k : Int) : Nat → List Int
  | 0 => []
  | i + 1 => if (t.getD i (0, 0)).1 = k then fndL t k i ++ [(t.getD i (0, 0)).2] else fndL t k i
theorem fndL_val {t : List (Int × Int)} (ha : Asc1 t) {k y : Int} (h : val t k = some y) : (∀ i, i ≤ t.length → (fndL t k i).length ≤ 1) ∧ fndL t k t.length = [y] := by
  obtain ⟨i1, i2, i3⟩ := val_idx h
  obtain ⟨a1, a2, a3⟩ := idx_spec i1
  have before : ∀ i, i ≤ (idx t k).toNat → fndL t k i = [] := by
    intro i
    induction i with
    | zero => intro _; rfl
    | succ i ih => intro h; rw [fndL, if_neg (a3 i (by omega)), ih (by omega)]
  have after : ∀ d, (idx t k).toNat + 1 + d ≤ t.length → fndL t k ((idx t k).toNat + 1 + d) = [y] := by
    intro d
    induction d with
    | zero => intro _; rw [Nat.add_zero, fndL, if_pos a2, before _ (Nat.le_refl _), i3]; rfl
    | succ d ih =>
      intro h
      rw [← Nat.add_assoc, fndL, if_neg (fun hk => by
        have := asc1_inj ha (i := (idx t k).toNat + 1 + d) (j := (idx t k).toNat) (by omega) a1 (by rw [hk, a2])
        omega), ih (by omega)]
  refine ⟨fun i hi => ?_, ?_⟩
  · by_cases hle : i ≤ (idx t k).toNat
    · rw [before i hle]; simp
    · have := after (i - ((idx t k).toNat + 1)) (by omega)
      rw [show (idx t k).toNat + 1 + (i - ((idx t k).toNat + 1)) = i by omega] at this
      rw [this]; simp
  · have := after (t.length - ((idx t k).toNat + 1)) (by omega)
    rwa [show (idx t k).toNat + 1 + (t.length - ((idx t k).toNat + 1)) = t.length by omega] at this

theorem r_ref_years (n1 : Bool) (l : List Hd) (u1 : Tail) (n2 : Bool) (t : List (Int × Int)) (u2 : Tail) (h : AH) :
    RCall Try.prog n_ref_years [.sl n1 l.length (hds l) u1, .sl n2 t.length (prs t) u2] h (yearsV l t) := by
  refine RCall.of hm cF_ref_years (by simp [g_ref_years]) fun hw h' hl => ?_
  simp only [F_ref_years, g_ref_years, go_sem, reduceIte, Nat.reduceEqDiff, Nat.reduceAdd, Nat.reduceMul, Nat.reduceSub, reduceCtorEq, Nat.reduceLeDiff, Nat.reduceLT, Int.reduceLT, Int.reduceLE, Int.reduceToNat, Int.reduceAdd, Int.reduceSub, Int.reduceNeg, Int.reduceMul, Int.reduceEq, ← Bool.decide_and, ← Bool.decide_or, ↓tq_n, ↓tq_e, ↓tq_r, ↓bq_n, ↓bq_e, ↓bq_r, ↓rq_n, ↓rq_r, ↓rq_e]
  refine CallG.mk (r_ref_Check n1 l u1 _) ?_
  by_cases h1 : chk l = 0
  case neg =>
    simp only [h1, F_ref_years, g_ref_years, go_sem, reduceIte, Nat.reduceEqDiff, Nat.reduceAdd, Nat.reduceMul, Nat.reduceSub, reduceCtorEq, Nat.reduceLeDiff, Nat.reduceLT, Int.reduceLT, Int.reduceLE, Int.reduceToNat, Int.reduceAdd, Int.reduceSub, Int.reduceNeg, Int.reduceMul, Int.reduceEq, ← Bool.decide_and, ← Bool.decide_or, ↓tq_n, ↓tq_e, ↓tq_r, ↓bq_n, ↓bq_e, ↓bq_r, ↓rq_n, ↓rq_r, ↓rq_e]
    exact ret_ok (by simp [yearsV, yq, h1])
  simp only [h1, F_ref_years, g_ref_years, go_sem, reduceIte, Nat.reduceEqDiff, Nat.reduceAdd, Nat.reduceMul, Nat.reduceSub, reduceCtorEq, Nat.reduceLeDiff, Nat.reduceLT, Int.reduceLT, Int.reduceLE, Int.reduceToNat, Int.reduceAdd, Int.reduceSub, Int.reduceNeg, Int.reduceMul, Int.reduceEq, ← Bool.decide_and, ← Bool.decide_or, ↓tq_n, ↓tq_e, ↓tq_r, ↓bq_n, ↓bq_e, ↓bq_r, ↓rq_n, ↓rq_r, ↓rq_e]
  refine CallG.mk (r_ref_Issues n2 t u2 _) ?_
  by_cases h2 : Ls (-9999) 9999 t
  case neg =>
    simp only [decide_eq_false h2, F_ref_years, g_ref_years, go_sem, reduceIte, Nat.reduceEqDiff, Nat.reduceAdd, Nat.reduceMul, Nat.reduceSub, reduceCtorEq, Nat.reduceLeDiff, Nat.reduceLT, Int.reduceLT, Int.reduceLE, Int.reduceToNat, Int.reduceAdd, Int.reduceSub, Int.reduceNeg, Int.reduceMul, Int.reduceEq, ← Bool.decide_and, ← Bool.decide_or, ↓tq_n, ↓tq_e, ↓tq_r, ↓bq_n, ↓bq_e, ↓bq_r, ↓rq_n, ↓rq_r, ↓rq_e]
    exact ret_ok (by simp [yearsV, yq, h1, h2])
  simp only [decide_eq_true h2, F_ref_years, g_ref_years, go_sem, reduceIte, Nat.reduceEqDiff, Nat.reduceAdd, Nat.reduceMul, Nat.reduceSub, reduceCtorEq, Nat.reduceLeDiff, Nat.reduceLT, Int.reduceLT, Int.reduceLE, Int.reduceToNat, Int.reduceAdd, Int.reduceSub, Int.reduceNeg, Int.reduceMul, Int.reduceEq, ← Bool.decide_and, ← Bool.decide_or, ↓tq_n, ↓tq_e, ↓tq_r, ↓bq_n, ↓bq_e, ↓bq_r, ↓rq_n, ↓rq_r, ↓rq_e]
  obtain ⟨l8, hvl⟩ := chk_vls h1
  have t99 := ls_len h2
  have hasc := or_asc (ls_iff.1 h2).1
  refine awp_tok 7 1 (nl := true) (n := 0) (cs := []) rfl fun tk ht => ?_
  refine awp_loop (fun p : Nat × List Int => [(0, .sl n1 l.length (hds l) u1), (1, .sl n2 t.length (prs t) u2), (7, gl (i64s p.2) p.1 (.tok tk)), (8, I p.1)]) (fun p => h'.setTok tk p.1 1) (fun p => p.1 ≤ l.length ∧ yl l t p.1 = some p.2) (fun p => l.length - p.1) (0, []) ⟨Nat.zero_le _, rfl⟩ (GStep.forget (by repeat' first | exact EnvLe.nil _ | refine EnvLe.cons (AV.le.of_eq rfl) ?_ | refine EnvLe.cons (AV.le.undef _) ?_ | refine EnvLe.cons AV.le.unk ?_) (by repeat' first | exact AH.le.refl _ | assumption | (refine AH.le_put ?_ (by first | assumption | exact (AH.blk_put_ne _ _ (by assumption)).trans (by assumption) | exact AH.none_put (by assumption) | exact AH.none_put (AH.none_put (by assumption)) | (simp only [AH.blk_setTok, AH.tok_put] at *; first | assumption | exact AH.none_put (by assumption)))) | (refine AH.le_setTok ?_ (by first | assumption | exact (AH.blk_put_ne _ _ (by assumption)).trans (by assumption) | exact AH.none_put (by assumption) | exact AH.none_put (AH.none_put (by assumption)) | (simp only [AH.blk_setTok, AH.tok_put] at *; first | assumption | exact AH.none_put (by assumption)))) | (refine AH.le_putM ?_ (by first | assumption | exact (AH.mp_putM_ne _ _ (by assumption)).trans (by assumption) | (simp only [AH.mp_put, AH.mp_setTok] at *; assumption))))) fun p hp => .of_vg hm ?_
  obtain ⟨i, zs⟩ := p
  obtain ⟨h3, h4⟩ := hp
  simp only at h3 h4 ⊢
  have hzl := yl_len h4
  by_cases h5 : i < l.length
  · have hc : (i : Int) < (l.length : Int) := by omega
    have hv := (hvl i h5).1
    simp only [hc, hds_drop h5, F_ref_years, g_ref_years, go_sem, reduceIte, Nat.reduceEqDiff, Nat.reduceAdd, Nat.reduceMul, Nat.reduceSub, reduceCtorEq, Nat.reduceLeDiff, Nat.reduceLT, Int.reduceLT, Int.reduceLE, Int.reduceToNat, Int.reduceAdd, Int.reduceSub, Int.reduceNeg, Int.reduceMul, Int.reduceEq, ← Bool.decide_and, ← Bool.decide_or, ↓tq_n, ↓tq_e, ↓tq_r, ↓bq_n, ↓bq_e, ↓bq_r, ↓rq_n, ↓rq_r, ↓rq_e]
    refine CallG.mk (r_ref_Latest (l.getD i dH) n2 t u2 _) ?_
    unfold latestV
    rw [if_pos ⟨hv, h2⟩]
    cases hs : latE (l.getD i dH) t with
    | none =>
      simp only [F_ref_years, g_ref_years, go_sem, reduceIte, Nat.reduceEqDiff, Nat.reduceAdd, Nat.reduceMul, Nat.reduceSub, reduceCtorEq, Nat.reduceLeDiff, Nat.reduceLT, Int.reduceLT, Int.reduceLE, Int.reduceToNat, Int.reduceAdd, Int.reduceSub, Int.reduceNeg, Int.reduceMul, Int.reduceEq, ← Bool.decide_and, ← Bool.decide_or, ↓tq_n, ↓tq_e, ↓tq_r, ↓bq_n, ↓bq_e, ↓bq_r, ↓rq_n, ↓rq_r, ↓rq_e]
      refine ret_hb (AH.le_setTok (.refl _) ht) ?_
      have := yl_stop h5 hs
      simp [yearsV, yq, h1, h2, this]
    | some s =>
      obtain ⟨s1, s2⟩ := lat_val hv hs
      obtain ⟨f1, f2⟩ := fndL_val hasc s2
      simp only [F_ref_years, g_ref_years, go_sem, reduceIte, Nat.reduceEqDiff, Nat.reduceAdd, Nat.reduceMul, Nat.reduceSub, reduceCtorEq, Nat.reduceLeDiff, Nat.reduceLT, Int.reduceLT, Int.reduceLE, Int.reduceToNat, Int.reduceAdd, Int.reduceSub, Int.reduceNeg, Int.reduceMul, Int.reduceEq, ← Bool.decide_and, ← Bool.decide_or, ↓tq_n, ↓tq_e, ↓tq_r, ↓bq_n, ↓bq_e, ↓bq_r, ↓rq_n, ↓rq_r, ↓rq_e]
      refine awp_loop (fun m : Nat => [(0, .sl n1 l.length (hds l) u1), (1, .sl n2 t.length (prs t) u2), (7, gl (i64s (zs ++ fndL t s.1 m)) (i + (fndL t s.1 m).length) (.tok tk)), (8, I i), (9, I s.1), (11, I m)]) (fun m => h'.setTok tk (i + (fndL t s.1 m).length) 1) (fun m => m ≤ t.length) (fun m => t.length - m) 0 (Nat.zero_le _) (by simp only [fndL, List.append_nil, List.length_nil, Nat.add_zero]; exact (GStep.forget (by repeat' first | exact EnvLe.nil _ | refine EnvLe.cons (AV.le.of_eq rfl) ?_ | refine EnvLe.cons (AV.le.undef _) ?_ | refine EnvLe.cons AV.le.unk ?_) (by repeat' first | exact AH.le.refl _ | assumption | (refine AH.le_put ?_ (by first | assumption | exact (AH.blk_put_ne _ _ (by assumption)).trans (by assumption) | exact AH.none_put (by assumption) | exact AH.none_put (AH.none_put (by assumption)) | (simp only [AH.blk_setTok, AH.tok_put] at *; first | assumption | exact AH.none_put (by assumption)))) | (refine AH.le_setTok ?_ (by first | assumption | exact (AH.blk_put_ne _ _ (by assumption)).trans (by assumption) | exact AH.none_put (by assumption) | exact AH.none_put (AH.none_put (by assumption)) | (simp only [AH.blk_setTok, AH.tok_put] at *; first | assumption | exact AH.none_put (by assumption)))) | (refine AH.le_putM ?_ (by first | assumption | exact (AH.mp_putM_ne _ _ (by assumption)).trans (by assumption) | (simp only [AH.mp_put, AH.mp_setTok] at *; assumption)))))) fun m hm' => .of_vg hm ?_
      by_cases h6 : m < t.length
      · have hc2 : (m : Int) < (t.length : Int) := by omega
        have hfl := f1 m (by omega)
        by_cases h7 : (t.getD m (0, 0)).1 = s.1
        · have e1 : fndL t s.1 (m + 1) = fndL t s.1 m ++ [(t.getD m (0, 0)).2] := by rw [fndL, if_pos h7]
          simp only [hc2, prs_drop h6, h7, F_ref_years, g_ref_years, go_sem, reduceIte, Nat.reduceEqDiff, Nat.reduceAdd, Nat.reduceMul, Nat.reduceSub, reduceCtorEq, Nat.reduceLeDiff, Nat.reduceLT, Int.reduceLT, Int.reduceLE, Int.reduceToNat, Int.reduceAdd, Int.reduceSub, Int.reduceNeg, Int.reduceMul, Int.reduceEq, ← Bool.decide_and, ← Bool.decide_or, ↓tq_n, ↓tq_e, ↓tq_r, ↓bq_n, ↓bq_e, ↓bq_r, ↓rq_n, ↓rq_r, ↓rq_e]
          refine ⟨by rw [i64s_len, List.length_append, hzl], by omega, by omega, by rw [inR64]; omega, m + 1, by omega, by omega, ?_⟩
          simp only [e1, i64s_append, i64s_one, List.length_append, List.length_singleton, ← List.append_assoc, ← Nat.add_assoc]
          exact (GStep.forget (by repeat' first | exact EnvLe.nil _ | refine EnvLe.cons (AV.le.of_eq rfl) ?_ | refine EnvLe.cons (AV.le.undef _) ?_ | refine EnvLe.cons AV.le.unk ?_) (by repeat' first | exact AH.le.refl _ | assumption | (refine AH.le_put ?_ (by first | assumption | exact (AH.blk_put_ne _ _ (by assumption)).trans (by assumption) | exact AH.none_put (by assumption) | exact AH.none_put (AH.none_put (by assumption)) | (simp only [AH.blk_setTok, AH.tok_put] at *; first | assumption | exact AH.none_put (by assumption)))) | (refine AH.le_setTok ?_ (by first | assumption | exact (AH.blk_put_ne _ _ (by assumption)).trans (by assumption) | exact AH.none_put (by assumption) | exact AH.none_put (AH.none_put (by assumption)) | (simp only [AH.blk_setTok, AH.tok_put] at *; first | assumption | exact AH.none_put (by assumption)))) | (refine AH.le_putM ?_ (by first | assumption | exact (AH.mp_putM_ne _ _ (by assumption)).trans (by assumption) | (simp only [AH.mp_put, AH.mp_setTok] at *; assumption)))))
        · have e1 : fndL t s.1 (m + 1) = fndL t s.1 m := by rw [fndL, if_neg h7]
          simp only [hc2, prs_drop h6, h7, F_ref_years, g_ref_years, go_sem, reduceIte, Nat.reduceEqDiff, Nat.reduceAdd, Nat.reduceMul, Nat.reduceSub, reduceCtorEq, Nat.reduceLeDiff, Nat.reduceLT, Int.reduceLT, Int.reduceLE, Int.reduceToNat, Int.reduceAdd, Int.reduceSub, Int.reduceNeg, Int.reduceMul, Int.reduceEq, ← Bool.decide_and, ← Bool.decide_or, ↓tq_n, ↓tq_e, ↓tq_r, ↓bq_n, ↓bq_e, ↓bq_r, ↓rq_n, ↓rq_r, ↓rq_e]
          refine ⟨by rw [inR64]; omega, m + 1, by omega, by omega, ?_⟩
          rw [e1]
          exact (GStep.forget (by repeat' first | exact EnvLe.nil _ | refine EnvLe.cons (AV.le.of_eq rfl) ?_ | refine EnvLe.cons (AV.le.undef _) ?_ | refine EnvLe.cons AV.le.unk ?_) (by repeat' first | exact AH.le.refl _ | assumption | (refine AH.le_put ?_ (by first | assumption | exact (AH.blk_put_ne _ _ (by assumption)).trans (by assumption) | exact AH.none_put (by assumption) | exact AH.none_put (AH.none_put (by assumption)) | (simp only [AH.blk_setTok, AH.tok_put] at *; first | assumption | exact AH.none_put (by assumption)))) | (refine AH.le_setTok ?_ (by first | assumption | exact (AH.blk_put_ne _ _ (by assumption)).trans (by assumption) | exact AH.none_put (by assumption) | exact AH.none_put (AH.none_put (by assumption)) | (simp only [AH.blk_setTok, AH.tok_put] at *; first | assumption | exact AH.none_put (by assumption)))) | (refine AH.le_putM ?_ (by first | assumption | exact (AH.mp_putM_ne _ _ (by assumption)).trans (by assumption) | (simp only [AH.mp_put, AH.mp_setTok] at *; assumption)))))
      have h6 : m = t.length := by omega
      subst h6
      rw [f2]
      simp only [F_ref_years, g_ref_years, go_sem, reduceIte, Nat.reduceEqDiff, Nat.reduceAdd, Nat.reduceMul, Nat.reduceSub, reduceCtorEq, Nat.reduceLeDiff, Nat.reduceLT, Int.reduceLT, Int.reduceLE, Int.reduceToNat, Int.reduceAdd, Int.reduceSub, Int.reduceNeg, Int.reduceMul, Int.reduceEq, ← Bool.decide_and, ← Bool.decide_or, ↓tq_n, ↓tq_e, ↓tq_r, ↓bq_n, ↓bq_e, ↓bq_r, ↓rq_n, ↓rq_r, ↓rq_e]
      exact ⟨by rw [inR64]; omega, (i + 1, zs ++ [s.2]), ⟨by simp only; omega, yl_step h4 hs⟩, by simp only; omega, (GStep.forget (by repeat' first | exact EnvLe.nil _ | refine EnvLe.cons (AV.le.of_eq rfl) ?_ | refine EnvLe.cons (AV.le.undef _) ?_ | refine EnvLe.cons AV.le.unk ?_) (by repeat' first | exact AH.le.refl _ | assumption | (refine AH.le_put ?_ (by first | assumption | exact (AH.blk_put_ne _ _ (by assumption)).trans (by assumption) | exact AH.none_put (by assumption) | exact AH.none_put (AH.none_put (by assumption)) | (simp only [AH.blk_setTok, AH.tok_put] at *; first | assumption | exact AH.none_put (by assumption)))) | (refine AH.le_setTok ?_ (by first | assumption | exact (AH.blk_put_ne _ _ (by assumption)).trans (by assumption) | exact AH.none_put (by assumption) | exact AH.none_put (AH.none_put (by assumption)) | (simp only [AH.blk_setTok, AH.tok_put] at *; first | assumption | exact AH.none_put (by assumption)))) | (refine AH.le_putM ?_ (by first | assumption | exact (AH.mp_putM_ne _ _ (by assumption)).trans (by assumption) | (simp only [AH.mp_put, AH.mp_setTok] at *; assumption)))))⟩
  · have h5 : i = l.length := by omega
    subst h5
    simp only [F_ref_years, g_ref_years, go_sem, reduceIte, Nat.reduceEqDiff, Nat.reduceAdd, Nat.reduceMul, Nat.reduceSub, reduceCtorEq, Nat.reduceLeDiff, Nat.reduceLT, Int.reduceLT, Int.reduceLE, Int.reduceToNat, Int.reduceAdd, Int.reduceSub, Int.reduceNeg, Int.reduceMul, Int.reduceEq, ← Bool.decide_and, ← Bool.decide_or, ↓tq_n, ↓tq_e, ↓tq_r, ↓bq_n, ↓bq_e, ↓bq_r, ↓rq_n, ↓rq_r, ↓rq_e]
    have e1 : ys l t = zs := by simp [ys, h1, h2, h4]
    have e2 : yq l t = 0 := by simp [yq, h1, h2, h4]
    refine ret_le (AH.le_setTok (.refl _) ht) ?_
    unfold yearsV
    rw [if_pos e2, e1]
    exact AV.le.tupC (.cons AV.le.glU (.cons (AV.le.refl _) .nil))

theorem ys_len {l : List Hd} {t : List (Int × Int)} (h : yq l t = 0) : (ys l t).length = l.length ∧ chk l = 0 ∧ Ls (-9999) 9999 t ∧ yl l t l.length = some (ys l t) := by
  unfold yq at h
  split at h
  · rename_i h1; exact absurd h h1
  · rename_i h1
    have h1 : chk l = 0 := Classical.byContradiction h1
    split at h
    · rename_i h2
      cases h3 : yl l t l.length with
      | none => rw [h3] at h; cases h
      | some zs =>
        have e : ys l t = zs := by simp [ys, h1, h2, h3]
        rw [e]
        exact ⟨yl_len h3, h1, h2, rfl⟩
    · cases h
/-- No hoard closes before its latest type. -/
def Agr (l : List Hd) (t : List (Int × Int)) : Prop := ∀ i, i < l.length → (ys l t).getD i 0 ≤ (l.getD i dH).cl.2
instance (l : List Hd) (t : List (Int × Int)) : Decidable (Agr l t) := by unfold Agr; infer_instance
def agreesV (l : List Hd) (t : List (Int × Int)) : AV := if yq l t = 0 then .tup [.bool (decide (Agr l t)), I 0] else .tup [.bool false, I (yq l t)]

theorem r_burial_Agrees (n1 : Bool) (l : List Hd) (u1 : Tail) (n2 : Bool) (t : List (Int × Int)) (u2 : Tail) (h : AH) :
    RCall Try.prog n_burial_Agrees [.sl n1 l.length (hds l) u1, .sl n2 t.length (prs t) u2] h (agreesV l t) := by
  refine RCall.of hm cF_burial_Agrees (by simp [g_burial_Agrees]) fun hw h' hl => ?_
  have hx := wf_len (hw _ (.head _))
  simp only [F_burial_Agrees, g_burial_Agrees, go_sem, reduceIte, Nat.reduceEqDiff, Nat.reduceAdd, Nat.reduceMul, Nat.reduceSub, reduceCtorEq, Nat.reduceLeDiff, Nat.reduceLT, Int.reduceLT, Int.reduceLE, Int.reduceToNat, Int.reduceAdd, Int.reduceSub, Int.reduceNeg, Int.reduceMul, Int.reduceEq, ← Bool.decide_and, ← Bool.decide_or, ↓tq_n, ↓tq_e, ↓tq_r, ↓bq_n, ↓bq_e, ↓bq_r, ↓rq_n, ↓rq_r, ↓rq_e]
  refine CallG.mk (r_burial_latest n1 l u1 n2 t u2 _) ?_
  unfold yearsV agreesV
  by_cases h1 : yq l t = 0
  case neg =>
    rw [if_neg h1]
    simp only [h1, F_burial_Agrees, g_burial_Agrees, go_sem, reduceIte, Nat.reduceEqDiff, Nat.reduceAdd, Nat.reduceMul, Nat.reduceSub, reduceCtorEq, Nat.reduceLeDiff, Nat.reduceLT, Int.reduceLT, Int.reduceLE, Int.reduceToNat, Int.reduceAdd, Int.reduceSub, Int.reduceNeg, Int.reduceMul, Int.reduceEq, ← Bool.decide_and, ← Bool.decide_or, ↓tq_n, ↓tq_e, ↓tq_r, ↓bq_n, ↓bq_e, ↓bq_r, ↓rq_n, ↓rq_r, ↓rq_e]
    exact ret_ok (by simp [h1])
  obtain ⟨yl1, _⟩ := ys_len h1
  rw [if_pos h1]
  simp only [F_burial_Agrees, g_burial_Agrees, go_sem, reduceIte, Nat.reduceEqDiff, Nat.reduceAdd, Nat.reduceMul, Nat.reduceSub, reduceCtorEq, Nat.reduceLeDiff, Nat.reduceLT, Int.reduceLT, Int.reduceLE, Int.reduceToNat, Int.reduceAdd, Int.reduceSub, Int.reduceNeg, Int.reduceMul, Int.reduceEq, ← Bool.decide_and, ← Bool.decide_or, ↓tq_n, ↓tq_e, ↓tq_r, ↓bq_n, ↓bq_e, ↓bq_r, ↓rq_n, ↓rq_r, ↓rq_e]
  refine awp_loop (fun i : Nat => [(6, gl (i64s (ys l t)) l.length .unk), (19, .sl n1 l.length (hds l) u1), (20, I l.length), (21, I i)]) (fun _ => h') (fun i => i ≤ l.length ∧ ∀ j, j < i → (ys l t).getD j 0 ≤ (l.getD j dH).cl.2) (fun i => l.length - i) 0 ⟨Nat.zero_le _, fun j hj => absurd hj (Nat.not_lt_zero _)⟩ (GStep.forget (by repeat' first | exact EnvLe.nil _ | refine EnvLe.cons (AV.le.of_eq rfl) ?_ | refine EnvLe.cons (AV.le.undef _) ?_ | refine EnvLe.cons AV.le.unk ?_) (by repeat' first | exact AH.le.refl _ | assumption | (refine AH.le_put ?_ (by first | assumption | exact (AH.blk_put_ne _ _ (by assumption)).trans (by assumption) | exact AH.none_put (by assumption) | exact AH.none_put (AH.none_put (by assumption)) | (simp only [AH.blk_setTok, AH.tok_put] at *; first | assumption | exact AH.none_put (by assumption)))) | (refine AH.le_setTok ?_ (by first | assumption | exact (AH.blk_put_ne _ _ (by assumption)).trans (by assumption) | exact AH.none_put (by assumption) | exact AH.none_put (AH.none_put (by assumption)) | (simp only [AH.blk_setTok, AH.tok_put] at *; first | assumption | exact AH.none_put (by assumption)))) | (refine AH.le_putM ?_ (by first | assumption | exact (AH.mp_putM_ne _ _ (by assumption)).trans (by assumption) | (simp only [AH.mp_put, AH.mp_setTok] at *; assumption))))) fun i hi => .of_vg hm ?_
  obtain ⟨h2, h3⟩ := hi
  by_cases h4 : i < l.length
  · have hc : (i : Int) < (l.length : Int) := by omega
    simp only [hc, hds_drop h4, i64s_drop (xs := ys l t) (i := i) (by omega), F_burial_Agrees, g_burial_Agrees, go_sem, reduceIte, Nat.reduceEqDiff, Nat.reduceAdd, Nat.reduceMul, Nat.reduceSub, reduceCtorEq, Nat.reduceLeDiff, Nat.reduceLT, Int.reduceLT, Int.reduceLE, Int.reduceToNat, Int.reduceAdd, Int.reduceSub, Int.reduceNeg, Int.reduceMul, Int.reduceEq, ← Bool.decide_and, ← Bool.decide_or, ↓tq_n, ↓tq_e, ↓tq_r, ↓bq_n, ↓bq_e, ↓bq_r, ↓rq_n, ↓rq_r, ↓rq_e]
    refine ⟨fun h5 => ?_, fun h5 => ⟨by rw [inR64]; omega, i + 1, ⟨by omega, all_succ h3 (by omega)⟩, by omega, (GStep.forget (by repeat' first | exact EnvLe.nil _ | refine EnvLe.cons (AV.le.of_eq rfl) ?_ | refine EnvLe.cons (AV.le.undef _) ?_ | refine EnvLe.cons AV.le.unk ?_) (by repeat' first | exact AH.le.refl _ | assumption | (refine AH.le_put ?_ (by first | assumption | exact (AH.blk_put_ne _ _ (by assumption)).trans (by assumption) | exact AH.none_put (by assumption) | exact AH.none_put (AH.none_put (by assumption)) | (simp only [AH.blk_setTok, AH.tok_put] at *; first | assumption | exact AH.none_put (by assumption)))) | (refine AH.le_setTok ?_ (by first | assumption | exact (AH.blk_put_ne _ _ (by assumption)).trans (by assumption) | exact AH.none_put (by assumption) | exact AH.none_put (AH.none_put (by assumption)) | (simp only [AH.blk_setTok, AH.tok_put] at *; first | assumption | exact AH.none_put (by assumption)))) | (refine AH.le_putM ?_ (by first | assumption | exact (AH.mp_putM_ne _ _ (by assumption)).trans (by assumption) | (simp only [AH.mp_put, AH.mp_setTok] at *; assumption)))))⟩⟩
    have : ¬ Agr l t := fun ha => by have := ha i h4; omega
    exact ret_ok (by rw [if_pos h1, decide_eq_false this])
  have h4 : i = l.length := by omega
  subst h4
  simp only [F_burial_Agrees, g_burial_Agrees, go_sem, reduceIte, Nat.reduceEqDiff, Nat.reduceAdd, Nat.reduceMul, Nat.reduceSub, reduceCtorEq, Nat.reduceLeDiff, Nat.reduceLT, Int.reduceLT, Int.reduceLE, Int.reduceToNat, Int.reduceAdd, Int.reduceSub, Int.reduceNeg, Int.reduceMul, Int.reduceEq, ← Bool.decide_and, ← Bool.decide_or, ↓tq_n, ↓tq_e, ↓tq_r, ↓bq_n, ↓bq_e, ↓bq_r, ↓rq_n, ↓rq_r, ↓rq_e]
  have : Agr l t := h3
  exact ret_ok (by rw [if_pos h1, decide_eq_true this])
theorem r_ref_Agrees (n1 : Bool) (l : List Hd) (u1 : Tail) (n2 : Bool) (t : List (Int × Int)) (u2 : Tail) (h : AH) :
    RCall Try.prog n_ref_Agrees [.sl n1 l.length (hds l) u1, .sl n2 t.length (prs t) u2] h (agreesV l t) := by
  refine RCall.of hm cF_ref_Agrees (by simp [g_ref_Agrees]) fun hw h' hl => ?_
  have hx := wf_len (hw _ (.head _))
  simp only [F_ref_Agrees, g_ref_Agrees, go_sem, reduceIte, Nat.reduceEqDiff, Nat.reduceAdd, Nat.reduceMul, Nat.reduceSub, reduceCtorEq, Nat.reduceLeDiff, Nat.reduceLT, Int.reduceLT, Int.reduceLE, Int.reduceToNat, Int.reduceAdd, Int.reduceSub, Int.reduceNeg, Int.reduceMul, Int.reduceEq, ← Bool.decide_and, ← Bool.decide_or, ↓tq_n, ↓tq_e, ↓tq_r, ↓bq_n, ↓bq_e, ↓bq_r, ↓rq_n, ↓rq_r, ↓rq_e]
  refine CallG.mk (r_ref_years n1 l u1 n2 t u2 _) ?_
  unfold yearsV agreesV
  by_cases h1 : yq l t = 0
  case neg =>
    rw [if_neg h1]
    simp only [h1, F_ref_Agrees, g_ref_Agrees, go_sem, reduceIte, Nat.reduceEqDiff, Nat.reduceAdd, Nat.reduceMul, Nat.reduceSub, reduceCtorEq, Nat.reduceLeDiff, Nat.reduceLT, Int.reduceLT, Int.reduceLE, Int.reduceToNat, Int.reduceAdd, Int.reduceSub, Int.reduceNeg, Int.reduceMul, Int.reduceEq, ← Bool.decide_and, ← Bool.decide_or, ↓tq_n, ↓tq_e, ↓tq_r, ↓bq_n, ↓bq_e, ↓bq_r, ↓rq_n, ↓rq_r, ↓rq_e]
    exact ret_ok (by simp [h1])
  obtain ⟨yl1, _⟩ := ys_len h1
  rw [if_pos h1]
  simp only [F_ref_Agrees, g_ref_Agrees, go_sem, reduceIte, Nat.reduceEqDiff, Nat.reduceAdd, Nat.reduceMul, Nat.reduceSub, reduceCtorEq, Nat.reduceLeDiff, Nat.reduceLT, Int.reduceLT, Int.reduceLE, Int.reduceToNat, Int.reduceAdd, Int.reduceSub, Int.reduceNeg, Int.reduceMul, Int.reduceEq, ← Bool.decide_and, ← Bool.decide_or, ↓tq_n, ↓tq_e, ↓tq_r, ↓bq_n, ↓bq_e, ↓bq_r, ↓rq_n, ↓rq_r, ↓rq_e]
  refine awp_loop (fun i : Nat => [(0, .sl n1 l.length (hds l) u1), (6, gl (i64s (ys l t)) l.length .unk), (8, I i)]) (fun _ => h') (fun i => i ≤ l.length ∧ ∀ j, j < i → (ys l t).getD j 0 ≤ (l.getD j dH).cl.2) (fun i => l.length - i) 0 ⟨Nat.zero_le _, fun j hj => absurd hj (Nat.not_lt_zero _)⟩ (GStep.forget (by repeat' first | exact EnvLe.nil _ | refine EnvLe.cons (AV.le.of_eq rfl) ?_ | refine EnvLe.cons (AV.le.undef _) ?_ | refine EnvLe.cons AV.le.unk ?_) (by repeat' first | exact AH.le.refl _ | assumption | (refine AH.le_put ?_ (by first | assumption | exact (AH.blk_put_ne _ _ (by assumption)).trans (by assumption) | exact AH.none_put (by assumption) | exact AH.none_put (AH.none_put (by assumption)) | (simp only [AH.blk_setTok, AH.tok_put] at *; first | assumption | exact AH.none_put (by assumption)))) | (refine AH.le_setTok ?_ (by first | assumption | exact (AH.blk_put_ne _ _ (by assumption)).trans (by assumption) | exact AH.none_put (by assumption) | exact AH.none_put (AH.none_put (by assumption)) | (simp only [AH.blk_setTok, AH.tok_put] at *; first | assumption | exact AH.none_put (by assumption)))) | (refine AH.le_putM ?_ (by first | assumption | exact (AH.mp_putM_ne _ _ (by assumption)).trans (by assumption) | (simp only [AH.mp_put, AH.mp_setTok] at *; assumption))))) fun i hi => .of_vg hm ?_
  obtain ⟨h2, h3⟩ := hi
  by_cases h4 : i < l.length
  · have hc : (i : Int) < (l.length : Int) := by omega
    simp only [hc, hds_drop h4, i64s_drop (xs := ys l t) (i := i) (by omega), F_ref_Agrees, g_ref_Agrees, go_sem, reduceIte, Nat.reduceEqDiff, Nat.reduceAdd, Nat.reduceMul, Nat.reduceSub, reduceCtorEq, Nat.reduceLeDiff, Nat.reduceLT, Int.reduceLT, Int.reduceLE, Int.reduceToNat, Int.reduceAdd, Int.reduceSub, Int.reduceNeg, Int.reduceMul, Int.reduceEq, ← Bool.decide_and, ← Bool.decide_or, ↓tq_n, ↓tq_e, ↓tq_r, ↓bq_n, ↓bq_e, ↓bq_r, ↓rq_n, ↓rq_r, ↓rq_e]
    refine ⟨fun h5 => ?_, fun h5 => ⟨by rw [inR64]; omega, i + 1, ⟨by omega, all_succ h3 (by omega)⟩, by omega, (GStep.forget (by repeat' first | exact EnvLe.nil _ | refine EnvLe.cons (AV.le.of_eq rfl) ?_ | refine EnvLe.cons (AV.le.undef _) ?_ | refine EnvLe.cons AV.le.unk ?_) (by repeat' first | exact AH.le.refl _ | assumption | (refine AH.le_put ?_ (by first | assumption | exact (AH.blk_put_ne _ _ (by assumption)).trans (by assumption) | exact AH.none_put (by assumption) | exact AH.none_put (AH.none_put (by assumption)) | (simp only [AH.blk_setTok, AH.tok_put] at *; first | assumption | exact AH.none_put (by assumption)))) | (refine AH.le_setTok ?_ (by first | assumption | exact (AH.blk_put_ne _ _ (by assumption)).trans (by assumption) | exact AH.none_put (by assumption) | exact AH.none_put (AH.none_put (by assumption)) | (simp only [AH.blk_setTok, AH.tok_put] at *; first | assumption | exact AH.none_put (by assumption)))) | (refine AH.le_putM ?_ (by first | assumption | exact (AH.mp_putM_ne _ _ (by assumption)).trans (by assumption) | (simp only [AH.mp_put, AH.mp_setTok] at *; assumption)))))⟩⟩
    have : ¬ Agr l t := fun ha => by have := ha i h4; omega
    exact ret_ok (by rw [if_pos h1, decide_eq_false this])
  have h4 : i = l.length := by omega
  subst h4
  simp only [F_ref_Agrees, g_ref_Agrees, go_sem, reduceIte, Nat.reduceEqDiff, Nat.reduceAdd, Nat.reduceMul, Nat.reduceSub, reduceCtorEq, Nat.reduceLeDiff, Nat.reduceLT, Int.reduceLT, Int.reduceLE, Int.reduceToNat, Int.reduceAdd, Int.reduceSub, Int.reduceNeg, Int.reduceMul, Int.reduceEq, ← Bool.decide_and, ← Bool.decide_or, ↓tq_n, ↓tq_e, ↓tq_r, ↓bq_n, ↓bq_e, ↓bq_r, ↓rq_n, ↓rq_r, ↓rq_e]
  have : Agr l t := h3
  exact ret_ok (by rw [if_pos h1, decide_eq_true this])
end Go.Proofs.Ytnekkkjedmlloaa
