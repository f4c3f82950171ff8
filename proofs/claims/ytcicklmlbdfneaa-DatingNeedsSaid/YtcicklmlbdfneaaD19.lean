/- Calls of functions of this seat's program: the needed hoards of the reference; the laws DatingChecks, DatingBetween, DatingNeeds. No condition. -/
import Derived.Test.YtcicklmlbdfneaaD17
import Derived.Test.YtcicklmlbdfneaaD11
namespace Go.Proofs.Ytcicklmlbdfneaa
open Go Go.Abs
set_option linter.unusedSimpArgs false
set_option linter.unusedVariables false
set_option maxRecDepth 20000

/-- Strictly ascending numbers of a range. -/
def Asc (l : List Int) (lo hi : Int) : Prop := ∀ i, i < l.length → (lo ≤ l.getD i 0 ∧ l.getD i 0 ≤ hi) ∧ (0 < i → l.getD (i - 1) 0 < l.getD i 0)
instance (l : List Int) (lo hi : Int) : Decidable (Asc l lo hi) := by unfold Asc; infer_instance
theorem r_base_Ascending (nl : Bool) (l : List Int) (tl : Tail) (lo hi : Int) (h : AH) : RCall Try.prog n_base_Ascending [.sl nl l.length (i64s l) tl, I lo, I hi] h (.bool (decide (Asc l lo hi))) := by
  refine RCall.of hm cF_base_Ascending (by simp [g_base_Ascending]) fun hw h' hl => ?_
  have hx := wf_len (hw _ (.head _))
  simp only [F_base_Ascending, g_base_Ascending, go_sem, reduceIte, Nat.reduceEqDiff, Nat.reduceAdd, Nat.reduceMul, Nat.reduceSub, reduceCtorEq, Nat.reduceLeDiff, Nat.reduceLT, Int.reduceLT, Int.reduceLE, Int.reduceToNat, Int.reduceAdd, Int.reduceSub, Int.reduceNeg, Int.reduceMul, Int.reduceEq, ← Bool.decide_and, ← Bool.decide_or, ↓tq_n, ↓tq_e, ↓tq_r, ↓bq_n, ↓bq_e, ↓bq_r, ↓rq_n, ↓rq_r, ↓rq_e]
  have no : ¬ Asc l lo hi → decide (Asc l lo hi) = false := fun h => decide_eq_false h
  refine awp_loop (fun i : Nat => [(0, .sl nl l.length (i64s l) tl), (1, I lo), (2, I hi), (7, I i)]) (fun _ => h') (fun i => i ≤ l.length ∧ ∀ j, j < i → (lo ≤ l.getD j 0 ∧ l.getD j 0 ≤ hi) ∧ (0 < j → l.getD (j - 1) 0 < l.getD j 0)) (fun i => l.length - i) 0 ⟨by omega, by omega⟩ (GStep.forget (by repeat' first | exact EnvLe.nil _ | refine EnvLe.cons (AV.le.of_eq rfl) ?_ | refine EnvLe.cons (AV.le.undef _) ?_ | refine EnvLe.cons AV.le.unk ?_) (by repeat' first | exact AH.le.refl _ | assumption | (refine AH.le_put ?_ (by first | assumption | exact (AH.blk_put_ne _ _ (by assumption)).trans (by assumption) | exact AH.none_put (by assumption) | exact AH.none_put (AH.none_put (by assumption)) | (simp only [AH.blk_setTok, AH.tok_put] at *; first | assumption | exact AH.none_put (by assumption)))) | (refine AH.le_setTok ?_ (by first | assumption | exact (AH.blk_put_ne _ _ (by assumption)).trans (by assumption) | exact AH.none_put (by assumption) | exact AH.none_put (AH.none_put (by assumption)) | (simp only [AH.blk_setTok, AH.tok_put] at *; first | assumption | exact AH.none_put (by assumption)))) | (refine AH.le_putM ?_ (by first | assumption | exact (AH.mp_putM_ne _ _ (by assumption)).trans (by assumption) | (simp only [AH.mp_put, AH.mp_setTok] at *; assumption))))) fun i hi => .of_vg hm ?_
  obtain ⟨h1, h2⟩ := hi
  by_cases h3 : i < l.length
  · have hc3 : (i : Int) < (l.length : Int) := by omega
    simp only [hc3, i64s_drop h3, F_base_Ascending, g_base_Ascending, go_sem, reduceIte, Nat.reduceEqDiff, Nat.reduceAdd, Nat.reduceMul, Nat.reduceSub, reduceCtorEq, Nat.reduceLeDiff, Nat.reduceLT, Int.reduceLT, Int.reduceLE, Int.reduceToNat, Int.reduceAdd, Int.reduceSub, Int.reduceNeg, Int.reduceMul, Int.reduceEq, ← Bool.decide_and, ← Bool.decide_or, ↓tq_n, ↓tq_e, ↓tq_r, ↓bq_n, ↓bq_e, ↓bq_r, ↓rq_n, ↓rq_r, ↓rq_e]
    refine ⟨fun h4 => ?_, fun h4 => ⟨fun h5 => ?_, fun h5 => ⟨fun h6 => ?_, fun h6 => ?_⟩⟩⟩
    · exact ret_ok (by rw [no (fun ha => by have := ha i h3; omega)])
    · exact ret_ok (by rw [no (fun ha => by have := ha i h3; omega)])
    · have hi1 : ((i : Int) - 1) = ((i - 1 : Nat) : Int) := by omega
      have hi2 : i - 1 < l.length := by omega
      have hi3 : ((i - 1 : Nat) : Int) < (l.length : Int) := by omega
      simp only [hi1, hi3, i64s_drop hi2, F_base_Ascending, g_base_Ascending, go_sem, reduceIte, Nat.reduceEqDiff, Nat.reduceAdd, Nat.reduceMul, Nat.reduceSub, reduceCtorEq, Nat.reduceLeDiff, Nat.reduceLT, Int.reduceLT, Int.reduceLE, Int.reduceToNat, Int.reduceAdd, Int.reduceSub, Int.reduceNeg, Int.reduceMul, Int.reduceEq, ← Bool.decide_and, ← Bool.decide_or, ↓tq_n, ↓tq_e, ↓tq_r, ↓bq_n, ↓bq_e, ↓bq_r, ↓rq_n, ↓rq_r, ↓rq_e]
      refine ⟨by rw [inR64]; omega, fun h7 => ?_, fun h7 => ⟨by rw [inR64]; omega, i + 1, ⟨by omega, all_succ h2 ⟨by omega, fun _ => by omega⟩⟩, by omega, (GStep.forget (by repeat' first | exact EnvLe.nil _ | refine EnvLe.cons (AV.le.of_eq rfl) ?_ | refine EnvLe.cons (AV.le.undef _) ?_ | refine EnvLe.cons AV.le.unk ?_) (by repeat' first | exact AH.le.refl _ | assumption | (refine AH.le_put ?_ (by first | assumption | exact (AH.blk_put_ne _ _ (by assumption)).trans (by assumption) | exact AH.none_put (by assumption) | exact AH.none_put (AH.none_put (by assumption)) | (simp only [AH.blk_setTok, AH.tok_put] at *; first | assumption | exact AH.none_put (by assumption)))) | (refine AH.le_setTok ?_ (by first | assumption | exact (AH.blk_put_ne _ _ (by assumption)).trans (by assumption) | exact AH.none_put (by assumption) | exact AH.none_put (AH.none_put (by assumption)) | (simp only [AH.blk_setTok, AH.tok_put] at *; first | assumption | exact AH.none_put (by assumption)))) | (refine AH.le_putM ?_ (by first | assumption | exact (AH.mp_putM_ne _ _ (by assumption)).trans (by assumption) | (simp only [AH.mp_put, AH.mp_setTok] at *; assumption)))))⟩⟩
      exact ret_ok (by rw [no (fun ha => by have := (ha i h3).2 (by omega); omega)])
    · exact ⟨by rw [inR64]; omega, i + 1, ⟨by omega, all_succ h2 ⟨by omega, fun _ => by omega⟩⟩, by omega, (GStep.forget (by repeat' first | exact EnvLe.nil _ | refine EnvLe.cons (AV.le.of_eq rfl) ?_ | refine EnvLe.cons (AV.le.undef _) ?_ | refine EnvLe.cons AV.le.unk ?_) (by repeat' first | exact AH.le.refl _ | assumption | (refine AH.le_put ?_ (by first | assumption | exact (AH.blk_put_ne _ _ (by assumption)).trans (by assumption) | exact AH.none_put (by assumption) | exact AH.none_put (AH.none_put (by assumption)) | (simp only [AH.blk_setTok, AH.tok_put] at *; first | assumption | exact AH.none_put (by assumption)))) | (refine AH.le_setTok ?_ (by first | assumption | exact (AH.blk_put_ne _ _ (by assumption)).trans (by assumption) | exact AH.none_put (by assumption) | exact AH.none_put (AH.none_put (by assumption)) | (simp only [AH.blk_setTok, AH.tok_put] at *; first | assumption | exact AH.none_put (by assumption)))) | (refine AH.le_putM ?_ (by first | assumption | exact (AH.mp_putM_ne _ _ (by assumption)).trans (by assumption) | (simp only [AH.mp_put, AH.mp_setTok] at *; assumption)))))⟩
  · have h3 : i = l.length := by omega
    subst h3
    simp only [F_base_Ascending, g_base_Ascending, go_sem, reduceIte, Nat.reduceEqDiff, Nat.reduceAdd, Nat.reduceMul, Nat.reduceSub, reduceCtorEq, Nat.reduceLeDiff, Nat.reduceLT, Int.reduceLT, Int.reduceLE, Int.reduceToNat, Int.reduceAdd, Int.reduceSub, Int.reduceNeg, Int.reduceMul, Int.reduceEq, ← Bool.decide_and, ← Bool.decide_or, ↓tq_n, ↓tq_e, ↓tq_r, ↓bq_n, ↓bq_e, ↓bq_r, ↓rq_n, ↓rq_r, ↓rq_e]
    have : Asc l lo hi := h2
    exact ret_ok (by simp [this])

theorem qq_ok (c : Cr) (hv : VC c) : qq c = 0 ↔ Ok c := by
  unfold qq
  rw [if_pos hv]
  by_cases h : Ok c <;> simp [h]
def rneedV (c : Cr) : AV := if VC c then (if Ok c then .tup [.sl true 0 [] .full, I 7] else .tup [gl (i64s (need c c.ho.length [])) (need c c.ho.length []).length .unk, I 0]) else .tup [.sl true 0 [] .full, I 1]

theorem r_ref_Needed (c : Cr) (h : AH) : RCall Try.prog n_ref_Needed [.st c.cs] h (rneedV c) := by
  refine RCall.of hm cF_ref_Needed (by simp [g_ref_Needed]) fun hw h' hl => ?_
  obtain ⟨hxT, hxH, hxG⟩ := cr_lens (n := 1) (hw _ (.head _))
  simp only [Cr.cs, F_ref_Needed, g_ref_Needed, go_sem, reduceIte, Nat.reduceEqDiff, Nat.reduceAdd, Nat.reduceMul, Nat.reduceSub, reduceCtorEq, Nat.reduceLeDiff, Nat.reduceLT, Int.reduceLT, Int.reduceLE, Int.reduceToNat, Int.reduceAdd, Int.reduceSub, Int.reduceNeg, Int.reduceMul, Int.reduceEq, ← Bool.decide_and, ← Bool.decide_or, ↓tq_n, ↓tq_e, ↓tq_r, ↓bq_n, ↓bq_e, ↓bq_r, ↓rq_n, ↓rq_r, ↓rq_e]
  refine CallG.mk (ends_ref_Some c _) ?_
  unfold rneedV endsV
  by_cases h1 : VC c
  case neg =>
    simp only [h1, if_false]
    simp only [F_ref_Needed, g_ref_Needed, go_sem, reduceIte, Nat.reduceEqDiff, Nat.reduceAdd, Nat.reduceMul, Nat.reduceSub, reduceCtorEq, Nat.reduceLeDiff, Nat.reduceLT, Int.reduceLT, Int.reduceLE, Int.reduceToNat, Int.reduceAdd, Int.reduceSub, Int.reduceNeg, Int.reduceMul, Int.reduceEq, ← Bool.decide_and, ← Bool.decide_or, ↓tq_n, ↓tq_e, ↓tq_r, ↓bq_n, ↓bq_e, ↓bq_r, ↓rq_n, ↓rq_r, ↓rq_e]
    exact ret_ok (by simp [h1])
  by_cases h2 : Ok c
  case pos =>
    simp only [h1, h2, if_true]
    simp only [F_ref_Needed, g_ref_Needed, go_sem, reduceIte, Nat.reduceEqDiff, Nat.reduceAdd, Nat.reduceMul, Nat.reduceSub, reduceCtorEq, Nat.reduceLeDiff, Nat.reduceLT, Int.reduceLT, Int.reduceLE, Int.reduceToNat, Int.reduceAdd, Int.reduceSub, Int.reduceNeg, Int.reduceMul, Int.reduceEq, ← Bool.decide_and, ← Bool.decide_or, ↓tq_n, ↓tq_e, ↓tq_r, ↓bq_n, ↓bq_e, ↓bq_r, ↓rq_n, ↓rq_r, ↓rq_e]
    exact ret_ok (by simp [h1, h2])
  simp only [h1, h2, if_true, if_false]
  simp only [F_ref_Needed, g_ref_Needed, go_sem, reduceIte, Nat.reduceEqDiff, Nat.reduceAdd, Nat.reduceMul, Nat.reduceSub, reduceCtorEq, Nat.reduceLeDiff, Nat.reduceLT, Int.reduceLT, Int.reduceLE, Int.reduceToNat, Int.reduceAdd, Int.reduceSub, Int.reduceNeg, Int.reduceMul, Int.reduceEq, ← Bool.decide_and, ← Bool.decide_or, ↓tq_n, ↓tq_e, ↓tq_r, ↓bq_n, ↓bq_e, ↓bq_r, ↓rq_n, ↓rq_r, ↓rq_e]
  have b6 := h1.1.2.1
  obtain ⟨n, hn⟩ : ∃ n, n = c.ho.length := ⟨_, rfl⟩
  refine awp_tok 7 1 (nl := true) (n := 0) (cs := []) rfl fun t ht => ?_
  refine awp_loop (fun i : Nat => [(1, .sptr c.cs), (7, gl (i64s (rI i)) i (.tok t)), (8, I i)]) (fun i => h'.setTok t i 1) (fun i => i ≤ n) (fun i => n - i) 0 (Nat.zero_le _) (by exact (GStep.forget (by repeat' first | exact EnvLe.nil _ | refine EnvLe.cons (AV.le.of_eq rfl) ?_ | refine EnvLe.cons (AV.le.undef _) ?_ | refine EnvLe.cons AV.le.unk ?_) (by repeat' first | exact AH.le.refl _ | assumption | (refine AH.le_put ?_ (by first | assumption | exact (AH.blk_put_ne _ _ (by assumption)).trans (by assumption) | exact AH.none_put (by assumption) | exact AH.none_put (AH.none_put (by assumption)) | (simp only [AH.blk_setTok, AH.tok_put] at *; first | assumption | exact AH.none_put (by assumption)))) | (refine AH.le_setTok ?_ (by first | assumption | exact (AH.blk_put_ne _ _ (by assumption)).trans (by assumption) | exact AH.none_put (by assumption) | exact AH.none_put (AH.none_put (by assumption)) | (simp only [AH.blk_setTok, AH.tok_put] at *; first | assumption | exact AH.none_put (by assumption)))) | (refine AH.le_putM ?_ (by first | assumption | exact (AH.mp_putM_ne _ _ (by assumption)).trans (by assumption) | (simp only [AH.mp_put, AH.mp_setTok] at *; assumption)))))) fun i hi => .of_vg hm ?_
  by_cases h3 : i < n
  · have hc3 : (i : Int) < (c.ho.length : Int) := by omega
    simp only [hc3, Cr.cs, F_ref_Needed, g_ref_Needed, go_sem, reduceIte, Nat.reduceEqDiff, Nat.reduceAdd, Nat.reduceMul, Nat.reduceSub, reduceCtorEq, Nat.reduceLeDiff, Nat.reduceLT, Int.reduceLT, Int.reduceLE, Int.reduceToNat, Int.reduceAdd, Int.reduceSub, Int.reduceNeg, Int.reduceMul, Int.reduceEq, ← Bool.decide_and, ← Bool.decide_or, ↓tq_n, ↓tq_e, ↓tq_r, ↓bq_n, ↓bq_e, ↓bq_r, ↓rq_n, ↓rq_r, ↓rq_e]
    refine ⟨by rw [i64s_len, rI_len], by omega, by omega, by rw [inR64]; omega, i + 1, by omega, by omega, ?_⟩
    rw [rI_succ, i64s_append]
    exact (GStep.forget (by repeat' first | exact EnvLe.nil _ | refine EnvLe.cons (AV.le.of_eq rfl) ?_ | refine EnvLe.cons (AV.le.undef _) ?_ | refine EnvLe.cons AV.le.unk ?_) (by repeat' first | exact AH.le.refl _ | assumption | (refine AH.le_put ?_ (by first | assumption | exact (AH.blk_put_ne _ _ (by assumption)).trans (by assumption) | exact AH.none_put (by assumption) | exact AH.none_put (AH.none_put (by assumption)) | (simp only [AH.blk_setTok, AH.tok_put] at *; first | assumption | exact AH.none_put (by assumption)))) | (refine AH.le_setTok ?_ (by first | assumption | exact (AH.blk_put_ne _ _ (by assumption)).trans (by assumption) | exact AH.none_put (by assumption) | exact AH.none_put (AH.none_put (by assumption)) | (simp only [AH.blk_setTok, AH.tok_put] at *; first | assumption | exact AH.none_put (by assumption)))) | (refine AH.le_putM ?_ (by first | assumption | exact (AH.mp_putM_ne _ _ (by assumption)).trans (by assumption) | (simp only [AH.mp_put, AH.mp_setTok] at *; assumption)))))
  have h3 : i = n := by omega
  subst h3
  have hc3 : ¬ (i : Int) < (c.ho.length : Int) := by omega
  simp only [hc3, Cr.cs, F_ref_Needed, g_ref_Needed, go_sem, reduceIte, Nat.reduceEqDiff, Nat.reduceAdd, Nat.reduceMul, Nat.reduceSub, reduceCtorEq, Nat.reduceLeDiff, Nat.reduceLT, Int.reduceLT, Int.reduceLE, Int.reduceToNat, Int.reduceAdd, Int.reduceSub, Int.reduceNeg, Int.reduceMul, Int.reduceEq, ← Bool.decide_and, ← Bool.decide_or, ↓tq_n, ↓tq_e, ↓tq_r, ↓bq_n, ↓bq_e, ↓bq_r, ↓rq_n, ↓rq_r, ↓rq_e]
  refine ⟨by rw [inR64]; omega, ?_⟩
  clear hi
  refine awp_loop (fun x : Nat × List Int => [(1, .sptr c.cs), (7, gl (i64s (rI x.1 ++ x.2)) (x.1 + x.2.length) .unk), (9, I ((x.1 : Int) - 1))]) (fun _ => h')
    (fun x => x.1 + x.2.length ≤ i ∧ Pl c (rI x.1 ++ x.2) ∧ (∀ y ∈ x.2, (x.1 : Int) ≤ y) ∧ need c x.1 x.2 = need c i []) (fun x => x.1) (i, []) ⟨by simp, ?_, by simp, rfl⟩ ?_ fun x hx => .of_vg hm ?_
  · intro j hj
    simp only [List.append_nil] at hj ⊢
    rw [rI_len] at hj
    rw [rI_get hj]; omega
  · rw [hn]
    simp only [List.append_nil, List.length_nil, Nat.add_zero]
    exact (GStep.forget (by repeat' first | exact EnvLe.nil _ | refine EnvLe.cons (AV.le.of_eq rfl) ?_ | refine EnvLe.cons (AV.le.undef _) ?_ | refine EnvLe.cons AV.le.unk ?_) (by repeat' first | exact AH.le.refl _ | assumption | (refine AH.le_put ?_ (by first | assumption | exact (AH.blk_put_ne _ _ (by assumption)).trans (by assumption) | exact AH.none_put (by assumption) | exact AH.none_put (AH.none_put (by assumption)) | (simp only [AH.blk_setTok, AH.tok_put] at *; first | assumption | exact AH.none_put (by assumption)))) | (refine AH.le_setTok ?_ (by first | assumption | exact (AH.blk_put_ne _ _ (by assumption)).trans (by assumption) | exact AH.none_put (by assumption) | exact AH.none_put (AH.none_put (by assumption)) | (simp only [AH.blk_setTok, AH.tok_put] at *; first | assumption | exact AH.none_put (by assumption)))) | (refine AH.le_putM ?_ (by first | assumption | exact (AH.mp_putM_ne _ _ (by assumption)).trans (by assumption) | (simp only [AH.mp_put, AH.mp_setTok] at *; assumption)))))
  obtain ⟨k, rest⟩ := x
  obtain ⟨hk1, hk2, hk4, hk3⟩ := hx
  simp only at hk1 hk2 hk3 hk4 ⊢
  cases k with
  | zero =>
    have hc0 : ¬ (0 : Int) ≤ ((0 : Nat) : Int) - 1 := by omega
    simp only [hc0, F_ref_Needed, g_ref_Needed, go_sem, reduceIte, Nat.reduceEqDiff, Nat.reduceAdd, Nat.reduceMul, Nat.reduceSub, reduceCtorEq, Nat.reduceLeDiff, Nat.reduceLT, Int.reduceLT, Int.reduceLE, Int.reduceToNat, Int.reduceAdd, Int.reduceSub, Int.reduceNeg, Int.reduceMul, Int.reduceEq, ← Bool.decide_and, ← Bool.decide_or, ↓tq_n, ↓tq_e, ↓tq_r, ↓bq_n, ↓bq_e, ↓bq_r, ↓rq_n, ↓rq_r, ↓rq_e]
    refine ret_ok ?_
    simp only [need] at hk3
    rw [if_pos h1, if_neg h2, ← hn, ← hk3]
    simp [rI]
  | succ k =>
    have hc0 : (0 : Int) ≤ (k : Int) := by omega
    have hck : (((k + 1 : Nat) : Int) - 1) = (k : Int) := by omega
    have hxl : (rI (k + 1) ++ rest).length = k + 1 + rest.length := by rw [List.length_append, rI_len]
    have hll : (rI k ++ rest).length = k + rest.length := by rw [List.length_append, rI_len]
    have hik1 : InR .i64 ((k : Int) - 1) := by rw [inR64]; omega
    have hp2 := pl_less hk2
    have hflt : (rI (k + 1) ++ rest).filter (fun y => !decide (y = (k : Int))) = rI k ++ rest := by
      rw [rI_succ, List.filter_append, List.filter_append]
      have f1 : (rI k).filter (fun y => !decide (y = (k : Int))) = rI k := List.filter_eq_self.2 fun y hy => by
        simp only [rI, List.mem_map, List.mem_range] at hy
        obtain ⟨z, hz, rfl⟩ := hy
        simp; omega
      have f2 : rest.filter (fun y => !decide (y = (k : Int))) = rest := List.filter_eq_self.2 fun y hy => by
        have := hk4 y hy
        simp; omega
      rw [f1, f2]
      simp
    obtain ⟨X, hX⟩ : ∃ X, X = rI (k + 1) ++ rest := ⟨_, rfl⟩
    have hXl : X.length = k + 1 + rest.length := by rw [hX, hxl]
    rw [← hX] at hflt ⊢
    rw [← hXl]
    simp only [hck, hc0, F_ref_Needed, g_ref_Needed, go_sem, reduceIte, Nat.reduceEqDiff, Nat.reduceAdd, Nat.reduceMul, Nat.reduceSub, reduceCtorEq, Nat.reduceLeDiff, Nat.reduceLT, Int.reduceLT, Int.reduceLE, Int.reduceToNat, Int.reduceAdd, Int.reduceSub, Int.reduceNeg, Int.reduceMul, Int.reduceEq, ← Bool.decide_and, ← Bool.decide_or, ↓tq_n, ↓tq_e, ↓tq_r, ↓bq_n, ↓bq_e, ↓bq_r, ↓rq_n, ↓rq_r, ↓rq_e]
    refine awp_tok 10 1 (nl := true) (n := 0) (cs := []) rfl fun t2 ht2 => ?_
    refine awp_loop (fun j : Nat => [(1, .sptr c.cs), (7, gl (i64s X) X.length .unk), (9, I k), (10, gl (i64s ((X.take j).filter (fun y => !decide (y = (k : Int))))) ((X.take j).filter (fun y => !decide (y = (k : Int)))).length (.tok t2)), (11, I j)])
      (fun j => h'.setTok t2 ((X.take j).filter (fun y => !decide (y = (k : Int)))).length 1) (fun j => j ≤ X.length) (fun j => X.length - j) 0 (Nat.zero_le _) (GStep.forget (by repeat' first | exact EnvLe.nil _ | refine EnvLe.cons (AV.le.of_eq rfl) ?_ | refine EnvLe.cons (AV.le.undef _) ?_ | refine EnvLe.cons AV.le.unk ?_) (by repeat' first | exact AH.le.refl _ | assumption | (refine AH.le_put ?_ (by first | assumption | exact (AH.blk_put_ne _ _ (by assumption)).trans (by assumption) | exact AH.none_put (by assumption) | exact AH.none_put (AH.none_put (by assumption)) | (simp only [AH.blk_setTok, AH.tok_put] at *; first | assumption | exact AH.none_put (by assumption)))) | (refine AH.le_setTok ?_ (by first | assumption | exact (AH.blk_put_ne _ _ (by assumption)).trans (by assumption) | exact AH.none_put (by assumption) | exact AH.none_put (AH.none_put (by assumption)) | (simp only [AH.blk_setTok, AH.tok_put] at *; first | assumption | exact AH.none_put (by assumption)))) | (refine AH.le_putM ?_ (by first | assumption | exact (AH.mp_putM_ne _ _ (by assumption)).trans (by assumption) | (simp only [AH.mp_put, AH.mp_setTok] at *; assumption))))) fun j hj => .of_vg hm ?_
    by_cases h4 : j < X.length
    · have hc3 : (j : Int) < (X.length : Int) := by omega
      have e1 : (X.take (j + 1)).filter (fun y => !decide (y = (k : Int))) = (X.take j).filter (fun y => !decide (y = (k : Int))) ++ [X.getD j 0].filter (fun y => !decide (y = (k : Int))) := by rw [take_getD 0 h4, List.filter_append]
      have hlt : ((X.take j).filter (fun y => !decide (y = (k : Int)))).length ≤ 6 := Nat.le_trans (List.length_filter_le _ _) (by rw [List.length_take]; omega)
      by_cases h5 : X.getD j 0 = (k : Int)
      · have e2 : [X.getD j 0].filter (fun y => !decide (y = (k : Int))) = [] := by simp only [List.filter_cons, List.filter_nil, decide_eq_true h5, Bool.not_true, Bool.false_eq_true, if_false]
        rw [e2, List.append_nil] at e1
        simp only [hc3, i64s_drop h4, h5, F_ref_Needed, g_ref_Needed, go_sem, reduceIte, Nat.reduceEqDiff, Nat.reduceAdd, Nat.reduceMul, Nat.reduceSub, reduceCtorEq, Nat.reduceLeDiff, Nat.reduceLT, Int.reduceLT, Int.reduceLE, Int.reduceToNat, Int.reduceAdd, Int.reduceSub, Int.reduceNeg, Int.reduceMul, Int.reduceEq, ← Bool.decide_and, ← Bool.decide_or, ↓tq_n, ↓tq_e, ↓tq_r, ↓bq_n, ↓bq_e, ↓bq_r, ↓rq_n, ↓rq_r, ↓rq_e]
        refine ⟨by rw [inR64]; omega, j + 1, by omega, by omega, ?_⟩
        rw [e1]
        exact (GStep.forget (by repeat' first | exact EnvLe.nil _ | refine EnvLe.cons (AV.le.of_eq rfl) ?_ | refine EnvLe.cons (AV.le.undef _) ?_ | refine EnvLe.cons AV.le.unk ?_) (by repeat' first | exact AH.le.refl _ | assumption | (refine AH.le_put ?_ (by first | assumption | exact (AH.blk_put_ne _ _ (by assumption)).trans (by assumption) | exact AH.none_put (by assumption) | exact AH.none_put (AH.none_put (by assumption)) | (simp only [AH.blk_setTok, AH.tok_put] at *; first | assumption | exact AH.none_put (by assumption)))) | (refine AH.le_setTok ?_ (by first | assumption | exact (AH.blk_put_ne _ _ (by assumption)).trans (by assumption) | exact AH.none_put (by assumption) | exact AH.none_put (AH.none_put (by assumption)) | (simp only [AH.blk_setTok, AH.tok_put] at *; first | assumption | exact AH.none_put (by assumption)))) | (refine AH.le_putM ?_ (by first | assumption | exact (AH.mp_putM_ne _ _ (by assumption)).trans (by assumption) | (simp only [AH.mp_put, AH.mp_setTok] at *; assumption)))))
      · have e2 : [X.getD j 0].filter (fun y => !decide (y = (k : Int))) = [X.getD j 0] := by simp only [List.filter_cons, List.filter_nil, decide_eq_false h5, Bool.not_false, if_true]
        rw [e2] at e1
        simp only [hc3, i64s_drop h4, h5, F_ref_Needed, g_ref_Needed, go_sem, reduceIte, Nat.reduceEqDiff, Nat.reduceAdd, Nat.reduceMul, Nat.reduceSub, reduceCtorEq, Nat.reduceLeDiff, Nat.reduceLT, Int.reduceLT, Int.reduceLE, Int.reduceToNat, Int.reduceAdd, Int.reduceSub, Int.reduceNeg, Int.reduceMul, Int.reduceEq, ← Bool.decide_and, ← Bool.decide_or, ↓tq_n, ↓tq_e, ↓tq_r, ↓bq_n, ↓bq_e, ↓bq_r, ↓rq_n, ↓rq_r, ↓rq_e]
        refine ⟨i64s_len _, by omega, by omega, by rw [inR64]; omega, j + 1, by omega, by omega, ?_⟩
        rw [e1, i64s_append, List.length_append]
        exact (GStep.forget (by repeat' first | exact EnvLe.nil _ | refine EnvLe.cons (AV.le.of_eq rfl) ?_ | refine EnvLe.cons (AV.le.undef _) ?_ | refine EnvLe.cons AV.le.unk ?_) (by repeat' first | exact AH.le.refl _ | assumption | (refine AH.le_put ?_ (by first | assumption | exact (AH.blk_put_ne _ _ (by assumption)).trans (by assumption) | exact AH.none_put (by assumption) | exact AH.none_put (AH.none_put (by assumption)) | (simp only [AH.blk_setTok, AH.tok_put] at *; first | assumption | exact AH.none_put (by assumption)))) | (refine AH.le_setTok ?_ (by first | assumption | exact (AH.blk_put_ne _ _ (by assumption)).trans (by assumption) | exact AH.none_put (by assumption) | exact AH.none_put (AH.none_put (by assumption)) | (simp only [AH.blk_setTok, AH.tok_put] at *; first | assumption | exact AH.none_put (by assumption)))) | (refine AH.le_putM ?_ (by first | assumption | exact (AH.mp_putM_ne _ _ (by assumption)).trans (by assumption) | (simp only [AH.mp_put, AH.mp_setTok] at *; assumption)))))
    have h4 : j = X.length := by omega
    subst h4
    have hl0 : k + rest.length ≤ 6 := by omega
    rw [List.take_length, hflt]
    simp only [Cr.cs, F_ref_Needed, g_ref_Needed, go_sem, reduceIte, Nat.reduceEqDiff, Nat.reduceAdd, Nat.reduceMul, Nat.reduceSub, reduceCtorEq, Nat.reduceLeDiff, Nat.reduceLT, Int.reduceLT, Int.reduceLE, Int.reduceToNat, Int.reduceAdd, Int.reduceSub, Int.reduceNeg, Int.reduceMul, Int.reduceEq, ← Bool.decide_and, ← Bool.decide_or, ↓tq_n, ↓tq_e, ↓tq_r, ↓bq_n, ↓bq_e, ↓bq_r, ↓rq_n, ↓rq_r, ↓rq_e]
    refine CallG.mk (r_ref_Only c _ (rI k ++ rest) _ (by omega) hp2 _) ?_
    simp only [F_ref_Needed, g_ref_Needed, go_sem, reduceIte, Nat.reduceEqDiff, Nat.reduceAdd, Nat.reduceMul, Nat.reduceSub, reduceCtorEq, Nat.reduceLeDiff, Nat.reduceLT, Int.reduceLT, Int.reduceLE, Int.reduceToNat, Int.reduceAdd, Int.reduceSub, Int.reduceNeg, Int.reduceMul, Int.reduceEq, ← Bool.decide_and, ← Bool.decide_or, ↓tq_n, ↓tq_e, ↓tq_r, ↓bq_n, ↓bq_e, ↓bq_r, ↓rq_n, ↓rq_r, ↓rq_e]
    refine CallG.mk (ends_ref_Some (onlyC c (rI k ++ rest)) _) ?_
    have hvo := only_vc h1 (by omega) hp2
    obtain ⟨n1, t1, n2, t2', ee⟩ := endsV_eq (onlyC c (rI k ++ rest)) false
    rw [ee]
    have hns : need c (k + 1) rest = if Ok (onlyC c (rI k ++ rest)) then need c k ((k : Int) :: rest) else need c k rest := rfl
    have hq := qq_ok _ hvo
    by_cases h5 : Ok (onlyC c (rI k ++ rest))
    · rw [if_pos h5] at hns
      simp only [hq.2 h5, F_ref_Needed, g_ref_Needed, go_sem, reduceIte, Nat.reduceEqDiff, Nat.reduceAdd, Nat.reduceMul, Nat.reduceSub, reduceCtorEq, Nat.reduceLeDiff, Nat.reduceLT, Int.reduceLT, Int.reduceLE, Int.reduceToNat, Int.reduceAdd, Int.reduceSub, Int.reduceNeg, Int.reduceMul, Int.reduceEq, ← Bool.decide_and, ← Bool.decide_or, ↓tq_n, ↓tq_e, ↓tq_r, ↓bq_n, ↓bq_e, ↓bq_r, ↓rq_n, ↓rq_r, ↓rq_e]
      have e6 : rI k ++ (k : Int) :: rest = X := by rw [hX, rI_succ]; simp
      refine ⟨hik1, (k, (k : Int) :: rest), ⟨by simp only [List.length_cons]; omega, by simp only; rw [e6, hX]; exact hk2, ?_, by rw [← hk3, hns]⟩, by simp only; omega, ?_⟩
      · intro y hy
        rcases List.mem_cons.1 hy with rfl | hy
        · exact Int.le_refl _
        · have := hk4 y hy; simp only; omega
      · simp only [e6, List.length_cons, show k + (rest.length + 1) = X.length by omega]
        exact (GStep.forget (by repeat' first | exact EnvLe.nil _ | refine EnvLe.cons (AV.le.of_eq rfl) ?_ | refine EnvLe.cons (AV.le.undef _) ?_ | refine EnvLe.cons AV.le.unk ?_) (by repeat' first | exact AH.le.refl _ | assumption | (refine AH.le_put ?_ (by first | assumption | exact (AH.blk_put_ne _ _ (by assumption)).trans (by assumption) | exact AH.none_put (by assumption) | exact AH.none_put (AH.none_put (by assumption)) | (simp only [AH.blk_setTok, AH.tok_put] at *; first | assumption | exact AH.none_put (by assumption)))) | (refine AH.le_setTok ?_ (by first | assumption | exact (AH.blk_put_ne _ _ (by assumption)).trans (by assumption) | exact AH.none_put (by assumption) | exact AH.none_put (AH.none_put (by assumption)) | (simp only [AH.blk_setTok, AH.tok_put] at *; first | assumption | exact AH.none_put (by assumption)))) | (refine AH.le_putM ?_ (by first | assumption | exact (AH.mp_putM_ne _ _ (by assumption)).trans (by assumption) | (simp only [AH.mp_put, AH.mp_setTok] at *; assumption)))))
    · rw [if_neg h5] at hns
      have hq2 : ¬ qq (onlyC c (rI k ++ rest)) = 0 := fun hh => h5 (hq.1 hh)
      simp only [hq2, F_ref_Needed, g_ref_Needed, go_sem, reduceIte, Nat.reduceEqDiff, Nat.reduceAdd, Nat.reduceMul, Nat.reduceSub, reduceCtorEq, Nat.reduceLeDiff, Nat.reduceLT, Int.reduceLT, Int.reduceLE, Int.reduceToNat, Int.reduceAdd, Int.reduceSub, Int.reduceNeg, Int.reduceMul, Int.reduceEq, ← Bool.decide_and, ← Bool.decide_or, ↓tq_n, ↓tq_e, ↓tq_r, ↓bq_n, ↓bq_e, ↓bq_r, ↓rq_n, ↓rq_r, ↓rq_e]
      refine ⟨hik1, (k, rest), ⟨by simp only; omega, hp2, ?_, by rw [← hk3, hns]⟩, by simp only; omega, ?_⟩
      · intro y hy
        have := hk4 y hy; simp only; omega
      · simp only [← hll]
        exact (GStep.forget (by repeat' first | exact EnvLe.nil _ | refine EnvLe.cons (AV.le.of_eq rfl) ?_ | refine EnvLe.cons (AV.le.undef _) ?_ | refine EnvLe.cons AV.le.unk ?_) (by repeat' first | exact AH.le.refl _ | assumption | (refine AH.le_put ?_ (by first | assumption | exact (AH.blk_put_ne _ _ (by assumption)).trans (by assumption) | exact AH.none_put (by assumption) | exact AH.none_put (AH.none_put (by assumption)) | (simp only [AH.blk_setTok, AH.tok_put] at *; first | assumption | exact AH.none_put (by assumption)))) | (refine AH.le_setTok ?_ (by first | assumption | exact (AH.blk_put_ne _ _ (by assumption)).trans (by assumption) | exact AH.none_put (by assumption) | exact AH.none_put (AH.none_put (by assumption)) | (simp only [AH.blk_setTok, AH.tok_put] at *; first | assumption | exact AH.none_put (by assumption)))) | (refine AH.le_putM ?_ (by first | assumption | exact (AH.mp_putM_ne _ _ (by assumption)).trans (by assumption) | (simp only [AH.mp_put, AH.mp_setTok] at *; assumption)))))
end Go.Proofs.Ytcicklmlbdfneaa
