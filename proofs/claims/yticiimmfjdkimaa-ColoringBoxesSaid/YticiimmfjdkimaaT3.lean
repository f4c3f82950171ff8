/- The number of colors, and the law ColoringChecks. No condition. -/
import Derived.Test.YticiimmfjdkimaaT2
import Derived.Test.YticiimmfjdkimaaD8
namespace Go.Proofs.Yticiimmfjdkimaa
open Go Go.Abs
set_option linter.unusedSimpArgs false
set_option linter.unusedVariables false
set_option maxRecDepth 20000

/-- The different small colors among the first i. -/
def dsK (c : List Int) : Nat → List Int
  | 0 => []
  | i + 1 => if (0 ≤ c.getD i 0 ∧ c.getD i 0 ≤ 15) ∧ c.getD i 0 ∉ dsK c i then dsK c i ++ [c.getD i 0] else dsK c i
def colN (c : List Int) : Nat := (dsK c c.length).length
def seenB (c : List Int) (i : Nat) : List AV := (List.range 16).map fun (x : Nat) => AV.bool (decide ((x : Int) ∈ dsK c i))
theorem seenB_len (c : List Int) (i : Nat) : (seenB c i).length = 16 := by simp [seenB]
theorem seenB_drop (c : List Int) (i : Nat) {v : Int} (h : 0 ≤ v ∧ v ≤ 15) : (seenB c i).drop v.toNat = .bool (decide (v ∈ dsK c i)) :: (seenB c i).drop (v.toNat + 1) := by
  have hv : v.toNat < (seenB c i).length := by rw [seenB_len]; omega
  rw [List.drop_eq_getElem_cons hv]
  congr 1
  simp only [seenB, List.getElem_map, List.getElem_range]
  rw [show ((v.toNat : Nat) : Int) = v by omega]
theorem seenB_set (c : List Int) (i : Nat) (h : 0 ≤ c.getD i 0 ∧ c.getD i 0 ≤ 15) (hn : c.getD i 0 ∉ dsK c i) : (seenB c i).set (c.getD i 0).toNat (.bool true) = seenB c (i + 1) := by
  have e1 : dsK c (i + 1) = dsK c i ++ [c.getD i 0] := by rw [dsK, if_pos ⟨h, hn⟩]
  refine List.ext_getElem (by simp [seenB]) fun j h1 h2 => ?_
  have hj : j < 16 := by simpa [seenB] using h2
  rw [List.getElem_set]
  simp only [seenB, List.getElem_map, List.getElem_range]
  rw [e1]
  split
  · rename_i hh
    have : (j : Int) = c.getD i 0 := by omega
    simp [this]
  · rename_i hh
    have : (j : Int) ≠ c.getD i 0 := by omega
    simp only [List.mem_append, List.mem_singleton, this, or_false]
theorem dsK_len (c : List Int) : ∀ i, (dsK c i).length ≤ i := by
  intro i
  induction i with
  | zero => simp [dsK]
  | succ i ih => unfold dsK; split
                 · simp only [List.length_append, List.length_singleton]; omega
                 · omega
theorem r_law_colors (nl : Bool) (c : List Int) (tl : Tail) (h : AH) : RCall Try.prog n_law_colorsW [.sl nl c.length (i64s c) tl] h (I (colN c)) := by
  refine RCall.of hm cF_law_colorsW (by simp [g_law_colorsW]) fun hw h' hl => ?_
  have hx := wf_len (hw _ (.head _))
  simp only [F_law_colorsW, g_law_colorsW, go_sem, reduceIte, Nat.reduceEqDiff, Nat.reduceAdd, Nat.reduceMul, Nat.reduceSub, reduceCtorEq, Nat.reduceLeDiff, Nat.reduceLT, Int.reduceLT, Int.reduceLE, Int.reduceToNat, Int.reduceAdd, Int.reduceSub, Int.reduceNeg, Int.reduceMul, Int.reduceEq, ← Bool.decide_and, ← Bool.decide_or, ↓tq_n, ↓tq_e, ↓tq_r, ↓bq_n, ↓bq_e, ↓bq_r, ↓rq_n, ↓rq_r, ↓rq_e]
  refine AllocG.mk fun b hb => ?_
  have e0 : [AV.bool false, .bool false, .bool false, .bool false, .bool false, .bool false, .bool false, .bool false, .bool false, .bool false, .bool false, .bool false, .bool false, .bool false, .bool false, .bool false] = seenB c 0 := by simp [seenB, dsK, List.range, List.range.loop]
  rw [e0]
  simp only [F_law_colorsW, g_law_colorsW, go_sem, reduceIte, Nat.reduceEqDiff, Nat.reduceAdd, Nat.reduceMul, Nat.reduceSub, reduceCtorEq, Nat.reduceLeDiff, Nat.reduceLT, Int.reduceLT, Int.reduceLE, Int.reduceToNat, Int.reduceAdd, Int.reduceSub, Int.reduceNeg, Int.reduceMul, Int.reduceEq, ← Bool.decide_and, ← Bool.decide_or, ↓tq_n, ↓tq_e, ↓tq_r, ↓bq_n, ↓bq_e, ↓bq_r, ↓rq_n, ↓rq_r, ↓rq_e]
  refine awp_loop (fun i : Nat => [(0, .sl nl c.length (i64s c) tl), (3, .ptr b 0), (4, I (dsK c i).length), (5, I i)]) (fun i => h'.put b (seenB c i)) (fun i => i ≤ c.length) (fun i => c.length - i) 0 (Nat.zero_le _) (GStep.forget (by repeat' first | exact EnvLe.nil _ | refine EnvLe.cons (AV.le.of_eq rfl) ?_ | refine EnvLe.cons (AV.le.undef _) ?_ | refine EnvLe.cons AV.le.unk ?_) (by repeat' first | exact AH.le.refl _ | assumption | (refine AH.le_put ?_ (by first | assumption | exact (AH.blk_put_ne _ _ (by assumption)).trans (by assumption) | exact AH.none_put (by assumption) | exact AH.none_put (AH.none_put (by assumption)) | (simp only [AH.blk_setTok, AH.tok_put] at *; first | assumption | exact AH.none_put (by assumption)))) | (refine AH.le_setTok ?_ (by first | assumption | exact (AH.blk_put_ne _ _ (by assumption)).trans (by assumption) | exact AH.none_put (by assumption) | exact AH.none_put (AH.none_put (by assumption)) | (simp only [AH.blk_setTok, AH.tok_put] at *; first | assumption | exact AH.none_put (by assumption)))) | (refine AH.le_putM ?_ (by first | assumption | exact (AH.mp_putM_ne _ _ (by assumption)).trans (by assumption) | (simp only [AH.mp_put, AH.mp_setTok] at *; assumption))))) fun i hi => .of_vg hm ?_
  by_cases h3 : i < c.length
  · have hc : (i : Int) < (c.length : Int) := by omega
    have hdl := dsK_len c i
    simp only [hc, i64s_drop h3, F_law_colorsW, g_law_colorsW, go_sem, reduceIte, Nat.reduceEqDiff, Nat.reduceAdd, Nat.reduceMul, Nat.reduceSub, reduceCtorEq, Nat.reduceLeDiff, Nat.reduceLT, Int.reduceLT, Int.reduceLE, Int.reduceToNat, Int.reduceAdd, Int.reduceSub, Int.reduceNeg, Int.reduceMul, Int.reduceEq, ← Bool.decide_and, ← Bool.decide_or, ↓tq_n, ↓tq_e, ↓tq_r, ↓bq_n, ↓bq_e, ↓bq_r, ↓rq_n, ↓rq_r, ↓rq_e]
    refine CallG.mk (r_base_In _ _ _ _) ?_
    by_cases h4 : 0 ≤ c.getD i 0 ∧ c.getD i 0 ≤ 15
    · rw [decide_eq_true h4]
      have h16 : c.getD i 0 < ((16 : Nat) : Int) := by omega
      have h15 : (c.getD i 0).toNat ≤ 15 := by omega
      by_cases h5 : c.getD i 0 ∈ dsK c i
      · have e1 : dsK c (i + 1) = dsK c i := by rw [dsK, if_neg (fun hh => hh.2 h5)]
        have e2 : seenB c (i + 1) = seenB c i := by unfold seenB; rw [e1]
        simp only [hc, i64s_drop h3, h4.1, h16, h15, seenB_drop c i h4, seenB_len, Nat.mul_one, decide_eq_true h5, F_law_colorsW, g_law_colorsW, go_sem, reduceIte, Nat.reduceEqDiff, Nat.reduceAdd, Nat.reduceMul, Nat.reduceSub, reduceCtorEq, Nat.reduceLeDiff, Nat.reduceLT, Int.reduceLT, Int.reduceLE, Int.reduceToNat, Int.reduceAdd, Int.reduceSub, Int.reduceNeg, Int.reduceMul, Int.reduceEq, ← Bool.decide_and, ← Bool.decide_or, ↓tq_n, ↓tq_e, ↓tq_r, ↓bq_n, ↓bq_e, ↓bq_r, ↓rq_n, ↓rq_r, ↓rq_e]
        refine ⟨by rw [inR64]; omega, i + 1, by omega, by omega, ?_⟩
        rw [e1, e2]
        exact (GStep.forget (by repeat' first | exact EnvLe.nil _ | refine EnvLe.cons (AV.le.of_eq rfl) ?_ | refine EnvLe.cons (AV.le.undef _) ?_ | refine EnvLe.cons AV.le.unk ?_) (by repeat' first | exact AH.le.refl _ | assumption | (refine AH.le_put ?_ (by first | assumption | exact (AH.blk_put_ne _ _ (by assumption)).trans (by assumption) | exact AH.none_put (by assumption) | exact AH.none_put (AH.none_put (by assumption)) | (simp only [AH.blk_setTok, AH.tok_put] at *; first | assumption | exact AH.none_put (by assumption)))) | (refine AH.le_setTok ?_ (by first | assumption | exact (AH.blk_put_ne _ _ (by assumption)).trans (by assumption) | exact AH.none_put (by assumption) | exact AH.none_put (AH.none_put (by assumption)) | (simp only [AH.blk_setTok, AH.tok_put] at *; first | assumption | exact AH.none_put (by assumption)))) | (refine AH.le_putM ?_ (by first | assumption | exact (AH.mp_putM_ne _ _ (by assumption)).trans (by assumption) | (simp only [AH.mp_put, AH.mp_setTok] at *; assumption)))))
      · have e1 : dsK c (i + 1) = dsK c i ++ [c.getD i 0] := by rw [dsK, if_pos ⟨h4, h5⟩]
        have e2 := seenB_set c i h4 h5
        simp only [hc, i64s_drop h3, h4.1, h16, h15, seenB_drop c i h4, seenB_len, Nat.mul_one, decide_eq_false h5, e2, F_law_colorsW, g_law_colorsW, go_sem, reduceIte, Nat.reduceEqDiff, Nat.reduceAdd, Nat.reduceMul, Nat.reduceSub, reduceCtorEq, Nat.reduceLeDiff, Nat.reduceLT, Int.reduceLT, Int.reduceLE, Int.reduceToNat, Int.reduceAdd, Int.reduceSub, Int.reduceNeg, Int.reduceMul, Int.reduceEq, ← Bool.decide_and, ← Bool.decide_or, ↓tq_n, ↓tq_e, ↓tq_r, ↓bq_n, ↓bq_e, ↓bq_r, ↓rq_n, ↓rq_r, ↓rq_e]
        refine ⟨by rw [inR64]; omega, by rw [inR64]; omega, i + 1, by omega, by omega, ?_⟩
        rw [e1, List.length_append, List.length_singleton]
        exact (GStep.forget (by repeat' first | exact EnvLe.nil _ | refine EnvLe.cons (AV.le.of_eq rfl) ?_ | refine EnvLe.cons (AV.le.undef _) ?_ | refine EnvLe.cons AV.le.unk ?_) (by repeat' first | exact AH.le.refl _ | assumption | (refine AH.le_put ?_ (by first | assumption | exact (AH.blk_put_ne _ _ (by assumption)).trans (by assumption) | exact AH.none_put (by assumption) | exact AH.none_put (AH.none_put (by assumption)) | (simp only [AH.blk_setTok, AH.tok_put] at *; first | assumption | exact AH.none_put (by assumption)))) | (refine AH.le_setTok ?_ (by first | assumption | exact (AH.blk_put_ne _ _ (by assumption)).trans (by assumption) | exact AH.none_put (by assumption) | exact AH.none_put (AH.none_put (by assumption)) | (simp only [AH.blk_setTok, AH.tok_put] at *; first | assumption | exact AH.none_put (by assumption)))) | (refine AH.le_putM ?_ (by first | assumption | exact (AH.mp_putM_ne _ _ (by assumption)).trans (by assumption) | (simp only [AH.mp_put, AH.mp_setTok] at *; assumption)))))
    · rw [decide_eq_false h4]
      have e1 : dsK c (i + 1) = dsK c i := by rw [dsK, if_neg (fun hh => h4 hh.1)]
      have e2 : seenB c (i + 1) = seenB c i := by unfold seenB; rw [e1]
      simp only [hc, F_law_colorsW, g_law_colorsW, go_sem, reduceIte, Nat.reduceEqDiff, Nat.reduceAdd, Nat.reduceMul, Nat.reduceSub, reduceCtorEq, Nat.reduceLeDiff, Nat.reduceLT, Int.reduceLT, Int.reduceLE, Int.reduceToNat, Int.reduceAdd, Int.reduceSub, Int.reduceNeg, Int.reduceMul, Int.reduceEq, ← Bool.decide_and, ← Bool.decide_or, ↓tq_n, ↓tq_e, ↓tq_r, ↓bq_n, ↓bq_e, ↓bq_r, ↓rq_n, ↓rq_r, ↓rq_e]
      refine ⟨by rw [inR64]; omega, i + 1, by omega, by omega, ?_⟩
      rw [e1, e2]
      exact (GStep.forget (by repeat' first | exact EnvLe.nil _ | refine EnvLe.cons (AV.le.of_eq rfl) ?_ | refine EnvLe.cons (AV.le.undef _) ?_ | refine EnvLe.cons AV.le.unk ?_) (by repeat' first | exact AH.le.refl _ | assumption | (refine AH.le_put ?_ (by first | assumption | exact (AH.blk_put_ne _ _ (by assumption)).trans (by assumption) | exact AH.none_put (by assumption) | exact AH.none_put (AH.none_put (by assumption)) | (simp only [AH.blk_setTok, AH.tok_put] at *; first | assumption | exact AH.none_put (by assumption)))) | (refine AH.le_setTok ?_ (by first | assumption | exact (AH.blk_put_ne _ _ (by assumption)).trans (by assumption) | exact AH.none_put (by assumption) | exact AH.none_put (AH.none_put (by assumption)) | (simp only [AH.blk_setTok, AH.tok_put] at *; first | assumption | exact AH.none_put (by assumption)))) | (refine AH.le_putM ?_ (by first | assumption | exact (AH.mp_putM_ne _ _ (by assumption)).trans (by assumption) | (simp only [AH.mp_put, AH.mp_setTok] at *; assumption)))))
  have h3 : i = c.length := by omega
  subst h3
  simp only [F_law_colorsW, g_law_colorsW, go_sem, reduceIte, Nat.reduceEqDiff, Nat.reduceAdd, Nat.reduceMul, Nat.reduceSub, reduceCtorEq, Nat.reduceLeDiff, Nat.reduceLT, Int.reduceLT, Int.reduceLE, Int.reduceToNat, Int.reduceAdd, Int.reduceSub, Int.reduceNeg, Int.reduceMul, Int.reduceEq, ← Bool.decide_and, ← Bool.decide_or, ↓tq_n, ↓tq_e, ↓tq_r, ↓bq_n, ↓bq_e, ↓bq_r, ↓rq_n, ↓rq_r, ↓rq_e]
  exact ret_hb (AH.le_new _ _ hb) rfl

/-- Greedy's list and error. -/
def gL (n : Int) (e : List (Int × Int)) (l : List Int) : List Int := if Vd n e ∧ Prm l n.toNat then grd e l n.toNat n.toNat else []
def gQ (n : Int) (e : List (Int × Int)) (l : List Int) : Int := if Vd n e then if Prm l n.toNat then 0 else 2 else 1
theorem gV_eq (n : Int) (e : List (Int × Int)) (l : List Int) : ∃ n1 t1, gV n e l = .tup [.sl n1 (gL n e l).length (i64s (gL n e l)) t1, I (gQ n e l)] := by
  unfold gV gL gQ
  by_cases h1 : Vd n e
  · by_cases h2 : Prm l n.toNat
    · rw [if_pos h1, if_pos h2, if_pos h1, if_pos h2, if_pos ⟨h1, h2⟩, grd_len]; exact ⟨_, _, rfl⟩
    · rw [if_pos h1, if_neg h2, if_pos h1, if_neg h2, if_neg (fun hh => h2 hh.2)]; exact ⟨_, _, rfl⟩
  · rw [if_neg h1, if_neg h1, if_neg (fun hh => h1 hh.1)]; exact ⟨_, _, rfl⟩

theorem r_law_ColoringChecks (n : Int) (n1 : Bool) (e : List (Int × Int)) (u1 : Tail) (n2 : Bool) (l : List Int) (u2 : Tail) (h : AH) : RCall Try.prog n_law_ColoringChecksW [I n, .sl n1 e.length (prs e) u1, .sl n2 l.length (i64s l) u2] h (.bool true) := by
  refine RCall.of hm cF_law_ColoringChecksW (by simp [g_law_ColoringChecksW]) fun hw h' hl => ?_
  simp only [F_law_ColoringChecksW, g_law_ColoringChecksW, go_sem, reduceIte, Nat.reduceEqDiff, Nat.reduceAdd, Nat.reduceMul, Nat.reduceSub, reduceCtorEq, Nat.reduceLeDiff, Nat.reduceLT, Int.reduceLT, Int.reduceLE, Int.reduceToNat, Int.reduceAdd, Int.reduceSub, Int.reduceNeg, Int.reduceMul, Int.reduceEq, ← Bool.decide_and, ← Bool.decide_or, ↓tq_n, ↓tq_e, ↓tq_r, ↓bq_n, ↓bq_e, ↓bq_r, ↓rq_n, ↓rq_r, ↓rq_e]
  refine CallG.mk (r_law_awake _) ?_
  simp only [F_law_ColoringChecksW, g_law_ColoringChecksW, go_sem, reduceIte, Nat.reduceEqDiff, Nat.reduceAdd, Nat.reduceMul, Nat.reduceSub, reduceCtorEq, Nat.reduceLeDiff, Nat.reduceLT, Int.reduceLT, Int.reduceLE, Int.reduceToNat, Int.reduceAdd, Int.reduceSub, Int.reduceNeg, Int.reduceMul, Int.reduceEq, ← Bool.decide_and, ← Bool.decide_or, ↓tq_n, ↓tq_e, ↓tq_r, ↓bq_n, ↓bq_e, ↓bq_r, ↓rq_n, ↓rq_r, ↓rq_e]
  refine CallG.mk (r_law_few n1 e.length (prs e) u1 _) ?_
  by_cases k1 : (e.length : Int) ≤ 80
  case neg =>
    rw [decide_eq_false k1]
    simp only [F_law_ColoringChecksW, g_law_ColoringChecksW, go_sem, reduceIte, Nat.reduceEqDiff, Nat.reduceAdd, Nat.reduceMul, Nat.reduceSub, reduceCtorEq, Nat.reduceLeDiff, Nat.reduceLT, Int.reduceLT, Int.reduceLE, Int.reduceToNat, Int.reduceAdd, Int.reduceSub, Int.reduceNeg, Int.reduceMul, Int.reduceEq, ← Bool.decide_and, ← Bool.decide_or, ↓tq_n, ↓tq_e, ↓tq_r, ↓bq_n, ↓bq_e, ↓bq_r, ↓rq_n, ↓rq_r, ↓rq_e]
    refine CallG.mk (r_law_awake _) ?_
    simp only [F_law_ColoringChecksW, g_law_ColoringChecksW, go_sem, reduceIte, Nat.reduceEqDiff, Nat.reduceAdd, Nat.reduceMul, Nat.reduceSub, reduceCtorEq, Nat.reduceLeDiff, Nat.reduceLT, Int.reduceLT, Int.reduceLE, Int.reduceToNat, Int.reduceAdd, Int.reduceSub, Int.reduceNeg, Int.reduceMul, Int.reduceEq, ← Bool.decide_and, ← Bool.decide_or, ↓tq_n, ↓tq_e, ↓tq_r, ↓bq_n, ↓bq_e, ↓bq_r, ↓rq_n, ↓rq_r, ↓rq_e]
    exact ret_ok rfl
  rw [decide_eq_true k1]
  by_cases k2 : (20 : Int) < (l.length : Int)
  · simp only [k2, F_law_ColoringChecksW, g_law_ColoringChecksW, go_sem, reduceIte, Nat.reduceEqDiff, Nat.reduceAdd, Nat.reduceMul, Nat.reduceSub, reduceCtorEq, Nat.reduceLeDiff, Nat.reduceLT, Int.reduceLT, Int.reduceLE, Int.reduceToNat, Int.reduceAdd, Int.reduceSub, Int.reduceNeg, Int.reduceMul, Int.reduceEq, ← Bool.decide_and, ← Bool.decide_or, ↓tq_n, ↓tq_e, ↓tq_r, ↓bq_n, ↓bq_e, ↓bq_r, ↓rq_n, ↓rq_r, ↓rq_e]
    refine CallG.mk (r_law_awake _) ?_
    simp only [F_law_ColoringChecksW, g_law_ColoringChecksW, go_sem, reduceIte, Nat.reduceEqDiff, Nat.reduceAdd, Nat.reduceMul, Nat.reduceSub, reduceCtorEq, Nat.reduceLeDiff, Nat.reduceLT, Int.reduceLT, Int.reduceLE, Int.reduceToNat, Int.reduceAdd, Int.reduceSub, Int.reduceNeg, Int.reduceMul, Int.reduceEq, ← Bool.decide_and, ← Bool.decide_or, ↓tq_n, ↓tq_e, ↓tq_r, ↓bq_n, ↓bq_e, ↓bq_r, ↓rq_n, ↓rq_r, ↓rq_e]
    exact ret_ok rfl
  obtain ⟨m1, w1, e1⟩ := gV_eq n e l
  simp only [k2, F_law_ColoringChecksW, g_law_ColoringChecksW, go_sem, reduceIte, Nat.reduceEqDiff, Nat.reduceAdd, Nat.reduceMul, Nat.reduceSub, reduceCtorEq, Nat.reduceLeDiff, Nat.reduceLT, Int.reduceLT, Int.reduceLE, Int.reduceToNat, Int.reduceAdd, Int.reduceSub, Int.reduceNeg, Int.reduceMul, Int.reduceEq, ← Bool.decide_and, ← Bool.decide_or, ↓tq_n, ↓tq_e, ↓tq_r, ↓bq_n, ↓bq_e, ↓bq_r, ↓rq_n, ↓rq_r, ↓rq_e]
  refine CallG.mk (r_coloring_Greedy n n1 e u1 n2 l u2 (by omega) _) ?_
  rw [e1]
  simp only [F_law_ColoringChecksW, g_law_ColoringChecksW, go_sem, reduceIte, Nat.reduceEqDiff, Nat.reduceAdd, Nat.reduceMul, Nat.reduceSub, reduceCtorEq, Nat.reduceLeDiff, Nat.reduceLT, Int.reduceLT, Int.reduceLE, Int.reduceToNat, Int.reduceAdd, Int.reduceSub, Int.reduceNeg, Int.reduceMul, Int.reduceEq, ← Bool.decide_and, ← Bool.decide_or, ↓tq_n, ↓tq_e, ↓tq_r, ↓bq_n, ↓bq_e, ↓bq_r, ↓rq_n, ↓rq_r, ↓rq_e]
  refine CallG.mk (r_ref_Greedy n n1 e u1 n2 l u2 _) ?_
  rw [e1]
  simp only [F_law_ColoringChecksW, g_law_ColoringChecksW, go_sem, reduceIte, Nat.reduceEqDiff, Nat.reduceAdd, Nat.reduceMul, Nat.reduceSub, reduceCtorEq, Nat.reduceLeDiff, Nat.reduceLT, Int.reduceLT, Int.reduceLE, Int.reduceToNat, Int.reduceAdd, Int.reduceSub, Int.reduceNeg, Int.reduceMul, Int.reduceEq, ← Bool.decide_and, ← Bool.decide_or, ↓tq_n, ↓tq_e, ↓tq_r, ↓bq_n, ↓bq_e, ↓bq_r, ↓rq_n, ↓rq_r, ↓rq_e]
  refine CallG.mk (r_coloring_Is n n1 e u1 n2 l u2 _) ?_
  simp only [F_law_ColoringChecksW, g_law_ColoringChecksW, go_sem, reduceIte, Nat.reduceEqDiff, Nat.reduceAdd, Nat.reduceMul, Nat.reduceSub, reduceCtorEq, Nat.reduceLeDiff, Nat.reduceLT, Int.reduceLT, Int.reduceLE, Int.reduceToNat, Int.reduceAdd, Int.reduceSub, Int.reduceNeg, Int.reduceMul, Int.reduceEq, ← Bool.decide_and, ← Bool.decide_or, ↓tq_n, ↓tq_e, ↓tq_r, ↓bq_n, ↓bq_e, ↓bq_r, ↓rq_n, ↓rq_r, ↓rq_e]
  refine CallG.mk (r_ref_Is n n1 e u1 n2 l u2 _) ?_
  simp only [F_law_ColoringChecksW, g_law_ColoringChecksW, go_sem, reduceIte, Nat.reduceEqDiff, Nat.reduceAdd, Nat.reduceMul, Nat.reduceSub, reduceCtorEq, Nat.reduceLeDiff, Nat.reduceLT, Int.reduceLT, Int.reduceLE, Int.reduceToNat, Int.reduceAdd, Int.reduceSub, Int.reduceNeg, Int.reduceMul, Int.reduceEq, ← Bool.decide_and, ← Bool.decide_or, ↓tq_n, ↓tq_e, ↓tq_r, ↓bq_n, ↓bq_e, ↓bq_r, ↓rq_n, ↓rq_r, ↓rq_e]
  refine CallG.mk (r_base_Ints _ _ _ _ _ _ _) ?_
  simp only [F_law_ColoringChecksW, g_law_ColoringChecksW, go_sem, reduceIte, Nat.reduceEqDiff, Nat.reduceAdd, Nat.reduceMul, Nat.reduceSub, reduceCtorEq, Nat.reduceLeDiff, Nat.reduceLT, Int.reduceLT, Int.reduceLE, Int.reduceToNat, Int.reduceAdd, Int.reduceSub, Int.reduceNeg, Int.reduceMul, Int.reduceEq, ← Bool.decide_and, ← Bool.decide_or, ↓tq_n, ↓tq_e, ↓tq_r, ↓bq_n, ↓bq_e, ↓bq_r, ↓rq_n, ↓rq_r, ↓rq_e]
  exact ret_ok (by simp)
end Go.Proofs.Yticiimmfjdkimaa
