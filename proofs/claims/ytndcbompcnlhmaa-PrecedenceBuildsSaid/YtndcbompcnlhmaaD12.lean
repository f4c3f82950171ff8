/- Calls of functions of this seat's program: pairs of specimens; the statement PrecedenceWear as a call. No condition. -/
import Derived.Test.YtndcbompcnlhmaaD9
import Derived.Test.YtndcbompcnlhmaaP3
import Derived.Test.YtndcbompcnlhmaaC7
namespace Go.Proofs.Ytndcbompcnlhmaa
open Go Go.Abs
set_option linter.unusedSimpArgs false
set_option linter.unusedVariables false
set_option maxRecDepth 20000

/-- Of pairs, those of a place and a later one. -/
def lat (q : Nat → Nat → Bool) (i k : Nat) : Bool := decide (i < k) && q i k
theorem lat_nil (q : Nat → Nat → Bool) (i : Nat) : ∀ k, k ≤ i + 1 → rwK (lat q i) i k = [] := by
  intro k
  induction k with
  | zero => intro _; rfl
  | succ k ih =>
    intro hk
    rw [rwK_succ, if_neg (by simp [lat]; omega), ih (by omega)]
theorem r_wear_pairs (f : FuncId) (q : Nat → Nat → Bool) (nl : Bool) (l : List Spm) (tl : Tail) (hl64 : l.length ≤ 64) (h : AH) (hf : ∀ i k, i < l.length → k < l.length → ∀ g, RCall Try.prog f [stS (l.getD i dS), stS (l.getD k dS)] g (.bool (q i k))) :
    RCall Try.prog n_wear_pairs [.sl nl l.length (sms l) tl, .fn f []] h (gl (prs (tbK (lat q) l.length l.length)) (tbK (lat q) l.length l.length).length .unk) := by
  refine RCall.of hm cF_wear_pairs (by simp [g_wear_pairs]) fun hw h' hl => ?_
  simp only [F_wear_pairs, g_wear_pairs, go_sem, reduceIte, Nat.reduceEqDiff, Nat.reduceAdd, Nat.reduceMul, Nat.reduceSub, reduceCtorEq, Nat.reduceLeDiff, Nat.reduceLT, Int.reduceLT, Int.reduceLE, Int.reduceToNat, Int.reduceAdd, Int.reduceSub, Int.reduceNeg, Int.reduceMul, Int.reduceEq, ← Bool.decide_and, ← Bool.decide_or, ↓tq_n, ↓tq_e, ↓tq_r, ↓bq_n, ↓bq_e, ↓bq_r, ↓rq_n, ↓rq_r, ↓rq_e]
  refine awp_tok 5 2 (nl := true) (n := 0) (cs := []) rfl fun t ht => ?_
  refine awp_loop (fun i : Nat => [(0, .sl nl l.length (sms l) tl), (1, .fn f []), (5, gl (prs (tbK (lat q) l.length i)) (tbK (lat q) l.length i).length (.tok t)), (9, .sl nl l.length (sms l) tl), (10, I l.length), (11, I i)]) (fun i => h'.setTok t (tbK (lat q) l.length i).length 2) (fun i => i ≤ l.length) (fun i => l.length - i) 0 (Nat.zero_le _) (GStep.forget (by repeat' first | exact EnvLe.nil _ | refine EnvLe.cons (AV.le.of_eq rfl) ?_ | refine EnvLe.cons (AV.le.undef _) ?_ | refine EnvLe.cons AV.le.unk ?_) (by repeat' first | exact AH.le.refl _ | assumption | (refine AH.le_put ?_ (by first | assumption | exact (AH.blk_put_ne _ _ (by assumption)).trans (by assumption) | exact AH.none_put (by assumption) | exact AH.none_put (AH.none_put (by assumption)) | (simp only [AH.blk_setTok, AH.tok_put] at *; first | assumption | exact AH.none_put (by assumption)))) | (refine AH.le_setTok ?_ (by first | assumption | exact (AH.blk_put_ne _ _ (by assumption)).trans (by assumption) | exact AH.none_put (by assumption) | exact AH.none_put (AH.none_put (by assumption)) | (simp only [AH.blk_setTok, AH.tok_put] at *; first | assumption | exact AH.none_put (by assumption)))) | (refine AH.le_putM ?_ (by first | assumption | exact (AH.mp_putM_ne _ _ (by assumption)).trans (by assumption) | (simp only [AH.mp_put, AH.mp_setTok] at *; assumption))))) fun i hi => .of_vg hm ?_
  by_cases h3 : i < l.length
  case neg =>
    have h3 : i = l.length := by omega
    subst h3
    simp only [F_wear_pairs, g_wear_pairs, go_sem, reduceIte, Nat.reduceEqDiff, Nat.reduceAdd, Nat.reduceMul, Nat.reduceSub, reduceCtorEq, Nat.reduceLeDiff, Nat.reduceLT, Int.reduceLT, Int.reduceLE, Int.reduceToNat, Int.reduceAdd, Int.reduceSub, Int.reduceNeg, Int.reduceMul, Int.reduceEq, ← Bool.decide_and, ← Bool.decide_or, ↓tq_n, ↓tq_e, ↓tq_r, ↓bq_n, ↓bq_e, ↓bq_r, ↓rq_n, ↓rq_r, ↓rq_e]
    exact ret_gl (by repeat' first | exact AH.le.refl _ | assumption | (refine AH.le_put ?_ (by first | assumption | exact (AH.blk_put_ne _ _ (by assumption)).trans (by assumption) | exact AH.none_put (by assumption) | exact AH.none_put (AH.none_put (by assumption)) | (simp only [AH.blk_setTok, AH.tok_put] at *; first | assumption | exact AH.none_put (by assumption)))) | (refine AH.le_setTok ?_ (by first | assumption | exact (AH.blk_put_ne _ _ (by assumption)).trans (by assumption) | exact AH.none_put (by assumption) | exact AH.none_put (AH.none_put (by assumption)) | (simp only [AH.blk_setTok, AH.tok_put] at *; first | assumption | exact AH.none_put (by assumption)))) | (refine AH.le_putM ?_ (by first | assumption | exact (AH.mp_putM_ne _ _ (by assumption)).trans (by assumption) | (simp only [AH.mp_put, AH.mp_setTok] at *; assumption))))
  have hc : (i : Int) < (l.length : Int) := by omega
  have hT := tbK_len (lat q) l.length i
  have hT2 : i * l.length ≤ 64 * 64 := Nat.mul_le_mul (by omega) hl64
  have hsucc := tbK_succ (lat q) l.length i
  have hcs : [I (l.getD i dS).id, I (l.getD i dS).obv, I (l.getD i dS).rev, I (l.getD i dS).os, I (l.getD i dS).rs, I (l.getD i dS).ax, I (l.getD i dS).wt] = (l.getD i dS).cs := rfl
  have hin : InR .i64 ((i : Int) + 1) := by rw [inR64]; omega
  simp only [hc, sms_drop h3, hin, F_wear_pairs, g_wear_pairs, go_sem, reduceIte, Nat.reduceEqDiff, Nat.reduceAdd, Nat.reduceMul, Nat.reduceSub, reduceCtorEq, Nat.reduceLeDiff, Nat.reduceLT, Int.reduceLT, Int.reduceLE, Int.reduceToNat, Int.reduceAdd, Int.reduceSub, Int.reduceNeg, Int.reduceMul, Int.reduceEq, ← Bool.decide_and, ← Bool.decide_or, ↓tq_n, ↓tq_e, ↓tq_r, ↓bq_n, ↓bq_e, ↓bq_r, ↓rq_n, ↓rq_r, ↓rq_e]
  refine awp_loop (fun k : Nat => [(0, .sl nl l.length (sms l) tl), (1, .fn f []), (5, gl (prs (tbK (lat q) l.length i ++ rwK (lat q i) i k)) (tbK (lat q) l.length i ++ rwK (lat q i) i k).length (.tok t)), (6, I i), (7, .sptr (l.getD i dS).cs), (8, I k), (9, .sl nl l.length (sms l) tl), (10, I l.length), (11, I i)]) (fun k => h'.setTok t (tbK (lat q) l.length i ++ rwK (lat q i) i k).length 2) (fun k => i + 1 ≤ k ∧ k ≤ l.length) (fun k => l.length - k) (i + 1) ⟨Nat.le_refl _, h3⟩ ?_ fun k hk => .of_vg hm ?_
  · rw [lat_nil q i (i + 1) (Nat.le_refl _), List.append_nil]
    exact (GStep.forget (by repeat' first | exact EnvLe.nil _ | refine EnvLe.cons (AV.le.of_eq rfl) ?_ | refine EnvLe.cons (AV.le.undef _) ?_ | refine EnvLe.cons AV.le.unk ?_) (by repeat' first | exact AH.le.refl _ | assumption | (refine AH.le_put ?_ (by first | assumption | exact (AH.blk_put_ne _ _ (by assumption)).trans (by assumption) | exact AH.none_put (by assumption) | exact AH.none_put (AH.none_put (by assumption)) | (simp only [AH.blk_setTok, AH.tok_put] at *; first | assumption | exact AH.none_put (by assumption)))) | (refine AH.le_setTok ?_ (by first | assumption | exact (AH.blk_put_ne _ _ (by assumption)).trans (by assumption) | exact AH.none_put (by assumption) | exact AH.none_put (AH.none_put (by assumption)) | (simp only [AH.blk_setTok, AH.tok_put] at *; first | assumption | exact AH.none_put (by assumption)))) | (refine AH.le_putM ?_ (by first | assumption | exact (AH.mp_putM_ne _ _ (by assumption)).trans (by assumption) | (simp only [AH.mp_put, AH.mp_setTok] at *; assumption)))))
  obtain ⟨hk1, hk⟩ := hk
  by_cases h4 : k < l.length
  · have hck : (k : Int) < (l.length : Int) := by omega
    have hR := rwK_len (lat q i) i k
    have hrs := rwK_succ (lat q i) i k
    simp only [hck, sms_drop h4, Spm.cs, F_wear_pairs, g_wear_pairs, go_sem, reduceIte, Nat.reduceEqDiff, Nat.reduceAdd, Nat.reduceMul, Nat.reduceSub, reduceCtorEq, Nat.reduceLeDiff, Nat.reduceLT, Int.reduceLT, Int.reduceLE, Int.reduceToNat, Int.reduceAdd, Int.reduceSub, Int.reduceNeg, Int.reduceMul, Int.reduceEq, ← Bool.decide_and, ← Bool.decide_or, ↓tq_n, ↓tq_e, ↓tq_r, ↓bq_n, ↓bq_e, ↓bq_r, ↓rq_n, ↓rq_r, ↓rq_e]
    refine CallG.mk (hf i k h3 h4 _) ?_
    have hlat : lat q i k = q i k := by unfold lat; rw [decide_eq_true (by omega)]; rfl
    rw [hlat] at hrs
    cases hq : q i k with
    | true =>
      rw [hq, if_pos rfl] at hrs
      simp only [F_wear_pairs, g_wear_pairs, go_sem, reduceIte, Nat.reduceEqDiff, Nat.reduceAdd, Nat.reduceMul, Nat.reduceSub, reduceCtorEq, Nat.reduceLeDiff, Nat.reduceLT, Int.reduceLT, Int.reduceLE, Int.reduceToNat, Int.reduceAdd, Int.reduceSub, Int.reduceNeg, Int.reduceMul, Int.reduceEq, ← Bool.decide_and, ← Bool.decide_or, ↓tq_n, ↓tq_e, ↓tq_r, ↓bq_n, ↓bq_e, ↓bq_r, ↓rq_n, ↓rq_r, ↓rq_e]
      refine ⟨by rw [prs_len], by rw [List.length_append]; omega, by rw [List.length_append]; omega, by rw [inR64]; omega, k + 1, ⟨by omega, by omega⟩, by omega, ?_⟩
      rw [hrs, (prs_snoc2 _ _ _).1, (prs_snoc2 _ _ _).2]
      exact (GStep.forget (by repeat' first | exact EnvLe.nil _ | refine EnvLe.cons (AV.le.of_eq rfl) ?_ | refine EnvLe.cons (AV.le.undef _) ?_ | refine EnvLe.cons AV.le.unk ?_) (by repeat' first | exact AH.le.refl _ | assumption | (refine AH.le_put ?_ (by first | assumption | exact (AH.blk_put_ne _ _ (by assumption)).trans (by assumption) | exact AH.none_put (by assumption) | exact AH.none_put (AH.none_put (by assumption)) | (simp only [AH.blk_setTok, AH.tok_put] at *; first | assumption | exact AH.none_put (by assumption)))) | (refine AH.le_setTok ?_ (by first | assumption | exact (AH.blk_put_ne _ _ (by assumption)).trans (by assumption) | exact AH.none_put (by assumption) | exact AH.none_put (AH.none_put (by assumption)) | (simp only [AH.blk_setTok, AH.tok_put] at *; first | assumption | exact AH.none_put (by assumption)))) | (refine AH.le_putM ?_ (by first | assumption | exact (AH.mp_putM_ne _ _ (by assumption)).trans (by assumption) | (simp only [AH.mp_put, AH.mp_setTok] at *; assumption)))))
    | false =>
      rw [hq, if_neg (by decide)] at hrs
      simp only [F_wear_pairs, g_wear_pairs, go_sem, reduceIte, Nat.reduceEqDiff, Nat.reduceAdd, Nat.reduceMul, Nat.reduceSub, reduceCtorEq, Nat.reduceLeDiff, Nat.reduceLT, Int.reduceLT, Int.reduceLE, Int.reduceToNat, Int.reduceAdd, Int.reduceSub, Int.reduceNeg, Int.reduceMul, Int.reduceEq, ← Bool.decide_and, ← Bool.decide_or, ↓tq_n, ↓tq_e, ↓tq_r, ↓bq_n, ↓bq_e, ↓bq_r, ↓rq_n, ↓rq_r, ↓rq_e]
      refine ⟨by rw [inR64]; omega, k + 1, ⟨by omega, by omega⟩, by omega, ?_⟩
      rw [hrs]
      exact (GStep.forget (by repeat' first | exact EnvLe.nil _ | refine EnvLe.cons (AV.le.of_eq rfl) ?_ | refine EnvLe.cons (AV.le.undef _) ?_ | refine EnvLe.cons AV.le.unk ?_) (by repeat' first | exact AH.le.refl _ | assumption | (refine AH.le_put ?_ (by first | assumption | exact (AH.blk_put_ne _ _ (by assumption)).trans (by assumption) | exact AH.none_put (by assumption) | exact AH.none_put (AH.none_put (by assumption)) | (simp only [AH.blk_setTok, AH.tok_put] at *; first | assumption | exact AH.none_put (by assumption)))) | (refine AH.le_setTok ?_ (by first | assumption | exact (AH.blk_put_ne _ _ (by assumption)).trans (by assumption) | exact AH.none_put (by assumption) | exact AH.none_put (AH.none_put (by assumption)) | (simp only [AH.blk_setTok, AH.tok_put] at *; first | assumption | exact AH.none_put (by assumption)))) | (refine AH.le_putM ?_ (by first | assumption | exact (AH.mp_putM_ne _ _ (by assumption)).trans (by assumption) | (simp only [AH.mp_put, AH.mp_setTok] at *; assumption)))))
  have h4 : k = l.length := by omega
  subst h4
  rw [← hsucc]
  simp only [F_wear_pairs, g_wear_pairs, go_sem, reduceIte, Nat.reduceEqDiff, Nat.reduceAdd, Nat.reduceMul, Nat.reduceSub, reduceCtorEq, Nat.reduceLeDiff, Nat.reduceLT, Int.reduceLT, Int.reduceLE, Int.reduceToNat, Int.reduceAdd, Int.reduceSub, Int.reduceNeg, Int.reduceMul, Int.reduceEq, ← Bool.decide_and, ← Bool.decide_or, ↓tq_n, ↓tq_e, ↓tq_r, ↓bq_n, ↓bq_e, ↓bq_r, ↓rq_n, ↓rq_r, ↓rq_e]
  exact ⟨by rw [inR64]; omega, i + 1, by omega, by omega, (GStep.forget (by repeat' first | exact EnvLe.nil _ | refine EnvLe.cons (AV.le.of_eq rfl) ?_ | refine EnvLe.cons (AV.le.undef _) ?_ | refine EnvLe.cons AV.le.unk ?_) (by repeat' first | exact AH.le.refl _ | assumption | (refine AH.le_put ?_ (by first | assumption | exact (AH.blk_put_ne _ _ (by assumption)).trans (by assumption) | exact AH.none_put (by assumption) | exact AH.none_put (AH.none_put (by assumption)) | (simp only [AH.blk_setTok, AH.tok_put] at *; first | assumption | exact AH.none_put (by assumption)))) | (refine AH.le_setTok ?_ (by first | assumption | exact (AH.blk_put_ne _ _ (by assumption)).trans (by assumption) | exact AH.none_put (by assumption) | exact AH.none_put (AH.none_put (by assumption)) | (simp only [AH.blk_setTok, AH.tok_put] at *; first | assumption | exact AH.none_put (by assumption)))) | (refine AH.le_putM ?_ (by first | assumption | exact (AH.mp_putM_ne _ _ (by assumption)).trans (by assumption) | (simp only [AH.mp_put, AH.mp_setTok] at *; assumption)))))⟩
/-- What Clashes and Alike return. -/
def paV (q : Spm → Spm → Bool) (l : List Spm) : AV := if ckE l = 0 then .tup [gl (prs (tbK (lat fun i k => q (l.getD i dS) (l.getD k dS)) l.length l.length)) (tbK (lat fun i k => q (l.getD i dS) (l.getD k dS)) l.length l.length).length .unk, I 0] else .tup [.sl true 0 [] .full, I (ckE l)]
theorem r_wear_Clashes (nl : Bool) (l : List Spm) (tl : Tail) (h : AH) : RCall Try.prog n_wear_Clashes [.sl nl l.length (sms l) tl] h (paV clS l) := by
  refine RCall.of hm cF_wear_Clashes (by simp [g_wear_Clashes]) fun hw h' hl => ?_
  simp only [F_wear_Clashes, g_wear_Clashes, go_sem, reduceIte, Nat.reduceEqDiff, Nat.reduceAdd, Nat.reduceMul, Nat.reduceSub, reduceCtorEq, Nat.reduceLeDiff, Nat.reduceLT, Int.reduceLT, Int.reduceLE, Int.reduceToNat, Int.reduceAdd, Int.reduceSub, Int.reduceNeg, Int.reduceMul, Int.reduceEq, ← Bool.decide_and, ← Bool.decide_or, ↓tq_n, ↓tq_e, ↓tq_r, ↓bq_n, ↓bq_e, ↓bq_r, ↓rq_n, ↓rq_r, ↓rq_e]
  refine CallG.mk (r_specimen_Check nl l tl _) ?_
  by_cases c1 : ckE l = 0
  case neg =>
    simp only [c1, F_wear_Clashes, g_wear_Clashes, go_sem, reduceIte, Nat.reduceEqDiff, Nat.reduceAdd, Nat.reduceMul, Nat.reduceSub, reduceCtorEq, Nat.reduceLeDiff, Nat.reduceLT, Int.reduceLT, Int.reduceLE, Int.reduceToNat, Int.reduceAdd, Int.reduceSub, Int.reduceNeg, Int.reduceMul, Int.reduceEq, ← Bool.decide_and, ← Bool.decide_or, ↓tq_n, ↓tq_e, ↓tq_r, ↓bq_n, ↓bq_e, ↓bq_r, ↓rq_n, ↓rq_r, ↓rq_e]
    exact ret_ok (by simp [paV, c1])
  have h64 := ck_64 c1
  simp only [c1, F_wear_Clashes, g_wear_Clashes, go_sem, reduceIte, Nat.reduceEqDiff, Nat.reduceAdd, Nat.reduceMul, Nat.reduceSub, reduceCtorEq, Nat.reduceLeDiff, Nat.reduceLT, Int.reduceLT, Int.reduceLE, Int.reduceToNat, Int.reduceAdd, Int.reduceSub, Int.reduceNeg, Int.reduceMul, Int.reduceEq, ← Bool.decide_and, ← Bool.decide_or, ↓tq_n, ↓tq_e, ↓tq_r, ↓bq_n, ↓bq_e, ↓bq_r, ↓rq_n, ↓rq_r, ↓rq_e]
  refine CallG.mk (r_wear_pairs 48 (fun i k => clS (l.getD i dS) (l.getD k dS)) nl l tl h64 _ (fun i k _ _ g => r_wear_Clashes_1 _ _ g)) ?_
  simp only [F_wear_Clashes, g_wear_Clashes, go_sem, reduceIte, Nat.reduceEqDiff, Nat.reduceAdd, Nat.reduceMul, Nat.reduceSub, reduceCtorEq, Nat.reduceLeDiff, Nat.reduceLT, Int.reduceLT, Int.reduceLE, Int.reduceToNat, Int.reduceAdd, Int.reduceSub, Int.reduceNeg, Int.reduceMul, Int.reduceEq, ← Bool.decide_and, ← Bool.decide_or, ↓tq_n, ↓tq_e, ↓tq_r, ↓bq_n, ↓bq_e, ↓bq_r, ↓rq_n, ↓rq_r, ↓rq_e]
  exact ret_ok (by simp [paV, c1])
theorem r_wear_Alike (nl : Bool) (l : List Spm) (tl : Tail) (h : AH) : RCall Try.prog n_wear_Alike [.sl nl l.length (sms l) tl] h (paV alS l) := by
  refine RCall.of hm cF_wear_Alike (by simp [g_wear_Alike]) fun hw h' hl => ?_
  simp only [F_wear_Alike, g_wear_Alike, go_sem, reduceIte, Nat.reduceEqDiff, Nat.reduceAdd, Nat.reduceMul, Nat.reduceSub, reduceCtorEq, Nat.reduceLeDiff, Nat.reduceLT, Int.reduceLT, Int.reduceLE, Int.reduceToNat, Int.reduceAdd, Int.reduceSub, Int.reduceNeg, Int.reduceMul, Int.reduceEq, ← Bool.decide_and, ← Bool.decide_or, ↓tq_n, ↓tq_e, ↓tq_r, ↓bq_n, ↓bq_e, ↓bq_r, ↓rq_n, ↓rq_r, ↓rq_e]
  refine CallG.mk (r_specimen_Check nl l tl _) ?_
  by_cases c1 : ckE l = 0
  case neg =>
    simp only [c1, F_wear_Alike, g_wear_Alike, go_sem, reduceIte, Nat.reduceEqDiff, Nat.reduceAdd, Nat.reduceMul, Nat.reduceSub, reduceCtorEq, Nat.reduceLeDiff, Nat.reduceLT, Int.reduceLT, Int.reduceLE, Int.reduceToNat, Int.reduceAdd, Int.reduceSub, Int.reduceNeg, Int.reduceMul, Int.reduceEq, ← Bool.decide_and, ← Bool.decide_or, ↓tq_n, ↓tq_e, ↓tq_r, ↓bq_n, ↓bq_e, ↓bq_r, ↓rq_n, ↓rq_r, ↓rq_e]
    exact ret_ok (by simp [paV, c1])
  have h64 := ck_64 c1
  simp only [c1, F_wear_Alike, g_wear_Alike, go_sem, reduceIte, Nat.reduceEqDiff, Nat.reduceAdd, Nat.reduceMul, Nat.reduceSub, reduceCtorEq, Nat.reduceLeDiff, Nat.reduceLT, Int.reduceLT, Int.reduceLE, Int.reduceToNat, Int.reduceAdd, Int.reduceSub, Int.reduceNeg, Int.reduceMul, Int.reduceEq, ← Bool.decide_and, ← Bool.decide_or, ↓tq_n, ↓tq_e, ↓tq_r, ↓bq_n, ↓bq_e, ↓bq_r, ↓rq_n, ↓rq_r, ↓rq_e]
  refine CallG.mk (r_wear_pairs 77 (fun i k => alS (l.getD i dS) (l.getD k dS)) nl l tl h64 _ (fun i k _ _ g => r_wear_Alike_1 _ _ g)) ?_
  simp only [F_wear_Alike, g_wear_Alike, go_sem, reduceIte, Nat.reduceEqDiff, Nat.reduceAdd, Nat.reduceMul, Nat.reduceSub, reduceCtorEq, Nat.reduceLeDiff, Nat.reduceLT, Int.reduceLT, Int.reduceLE, Int.reduceToNat, Int.reduceAdd, Int.reduceSub, Int.reduceNeg, Int.reduceMul, Int.reduceEq, ← Bool.decide_and, ← Bool.decide_or, ↓tq_n, ↓tq_e, ↓tq_r, ↓bq_n, ↓bq_e, ↓bq_r, ↓rq_n, ↓rq_r, ↓rq_e]
  exact ret_ok (by simp [paV, c1])
theorem rwK_asc (p : Nat → Bool) (i : Nat) : ∀ k, (rwK p i k).Pairwise Lx := by
  intro k
  unfold rwK
  rw [List.pairwise_map]
  exact ((List.pairwise_lt_range (n := k)).filter p).imp fun h => .inr ⟨rfl, by simp only; omega⟩
theorem tbK_asc (q : Nat → Nat → Bool) (m : Nat) : ∀ i, (tbK q m i).Pairwise Lx := by
  intro i
  induction i with
  | zero => exact .nil
  | succ i ih =>
    rw [tbK_succ]
    refine List.pairwise_append.2 ⟨ih, rwK_asc _ _ _, fun x hx y hy => ?_⟩
    obtain ⟨a, k, h1, h2, h3, rfl⟩ := mem_tbK.1 hx
    unfold rwK at hy
    obtain ⟨j, hj, rfl⟩ := List.mem_map.1 hy
    exact .inl (by simp only; omega)
/-- Wear alone makes the arcs of both sides. -/
theorem wear_arcs (l : List Spm) : arcL (pcs l []) = tbK (fun i k => bfS (l.getD i dS) (l.getD k dS) 0 || bfS (l.getD i dS) (l.getD k dS) 1) l.length l.length := by
  refine pasc_ext (arcL_asc _) (tbK_asc _ _ _) fun x => ?_
  rw [mem_arcL, mem_tbK]
  constructor
  · rintro ⟨p, hp, rfl⟩
    rcases mem_pcs.1 hp with ⟨s, hs, a, k, h1, h2, h3, rfl⟩ | ⟨q, hq, _⟩
    · refine ⟨a, k, h1, h2, ?_, rfl⟩
      have : s = 0 ∨ s = 1 := by omega
      rcases this with rfl | rfl
      · rw [show ((0 : Nat) : Int) = 0 from rfl] at h3; rw [h3]; rfl
      · rw [show ((1 : Nat) : Int) = 1 from rfl] at h3; rw [h3]; simp
    · cases hq
  · rintro ⟨a, k, h1, h2, h3, rfl⟩
    rcases Bool.or_eq_true_iff.1 h3 with h3 | h3
    · exact ⟨(0, (a : Int), (k : Int)), mem_pcs.2 (.inl ⟨0, by omega, a, k, h1, h2, h3, rfl⟩), rfl⟩
    · exact ⟨(1, (a : Int), (k : Int)), mem_pcs.2 (.inl ⟨1, by omega, a, k, h1, h2, h3, rfl⟩), rfl⟩
theorem ga_nil {l : List Spm} : gaE l [] = if ckE l = 0 then (if 24 < l.length then 6 else 0) else ckE l := by
  unfold gaE
  simp
/-- Two that clash contradict. -/
theorem clash_bad {l : List Spm} (h : gaE l [] = 0) {x : Int × Int} (hx : x ∈ tbK (lat fun i k => clS (l.getD i dS) (l.getD k dS)) l.length l.length) : acB l [] = false := by
  obtain ⟨a, k, h1, h2, h3, _⟩ := mem_tbK.1 hx
  unfold lat at h3
  have h4 : clS (l.getD a dS) (l.getD k dS) = true := (Bool.and_eq_true_iff.1 h3).2
  have hE : ∀ s : Nat, s < 2 → ∀ i j : Nat, i < l.length → j < l.length → bfS (l.getD i dS) (l.getD j dS) s = true → EP (pcs l []) i j := fun s hs i j hi hj hb => ⟨_, mem_pcs.2 (.inl ⟨s, hs, i, j, hi, hj, hb, rfl⟩), rfl, rfl⟩
  refine Bool.eq_false_iff.2 fun hh => ?_
  have hac := (acB_iff h).1 hh
  unfold clS at h4
  rcases Bool.or_eq_true_iff.1 h4 with h4 | h4
  · obtain ⟨b1, b2⟩ := Bool.and_eq_true_iff.1 h4
    exact hac a (.step (hE 0 (by omega) a k h1 h2 b1) (.one (hE 1 (by omega) k a h2 h1 b2)))
  · obtain ⟨b1, b2⟩ := Bool.and_eq_true_iff.1 h4
    exact hac a (.step (hE 1 (by omega) a k h1 h2 b2) (.one (hE 0 (by omega) k a h2 h1 b1)))
set_option maxHeartbeats 4000000 in
theorem r_law_PrecedenceWear (n1 : Bool) (l : List Spm) (u1 : Tail) (h : AH) : RCall Try.prog n_law_PrecedenceWear [.sl n1 l.length (sms l) u1] h (.bool true) := by
  refine RCall.of hm cF_law_PrecedenceWear (by simp [g_law_PrecedenceWear]) fun hw h' hl => ?_
  simp only [F_law_PrecedenceWear, g_law_PrecedenceWear, go_sem, reduceIte, Nat.reduceEqDiff, Nat.reduceAdd, Nat.reduceMul, Nat.reduceSub, reduceCtorEq, Nat.reduceLeDiff, Nat.reduceLT, Int.reduceLT, Int.reduceLE, Int.reduceToNat, Int.reduceAdd, Int.reduceSub, Int.reduceNeg, Int.reduceMul, Int.reduceEq, ← Bool.decide_and, ← Bool.decide_or, ↓tq_n, ↓tq_e, ↓tq_r, ↓bq_n, ↓bq_e, ↓bq_r, ↓rq_n, ↓rq_r, ↓rq_e]
  refine CallG.mk (r_law_awake _) ?_
  simp only [F_law_PrecedenceWear, g_law_PrecedenceWear, go_sem, reduceIte, Nat.reduceEqDiff, Nat.reduceAdd, Nat.reduceMul, Nat.reduceSub, reduceCtorEq, Nat.reduceLeDiff, Nat.reduceLT, Int.reduceLT, Int.reduceLE, Int.reduceToNat, Int.reduceAdd, Int.reduceSub, Int.reduceNeg, Int.reduceMul, Int.reduceEq, ← Bool.decide_and, ← Bool.decide_or, ↓tq_n, ↓tq_e, ↓tq_r, ↓bq_n, ↓bq_e, ↓bq_r, ↓rq_n, ↓rq_r, ↓rq_e]
  refine CallG.mk (r_law_few n1 l u1 true [] .full _) ?_
  cases hf : fwC l [] with
  | false =>
    simp only [F_law_PrecedenceWear, g_law_PrecedenceWear, go_sem, reduceIte, Nat.reduceEqDiff, Nat.reduceAdd, Nat.reduceMul, Nat.reduceSub, reduceCtorEq, Nat.reduceLeDiff, Nat.reduceLT, Int.reduceLT, Int.reduceLE, Int.reduceToNat, Int.reduceAdd, Int.reduceSub, Int.reduceNeg, Int.reduceMul, Int.reduceEq, ← Bool.decide_and, ← Bool.decide_or, ↓tq_n, ↓tq_e, ↓tq_r, ↓bq_n, ↓bq_e, ↓bq_r, ↓rq_n, ↓rq_r, ↓rq_e]
    refine CallG.mk (r_law_awake _) ?_
    simp only [F_law_PrecedenceWear, g_law_PrecedenceWear, go_sem, reduceIte, Nat.reduceEqDiff, Nat.reduceAdd, Nat.reduceMul, Nat.reduceSub, reduceCtorEq, Nat.reduceLeDiff, Nat.reduceLT, Int.reduceLT, Int.reduceLE, Int.reduceToNat, Int.reduceAdd, Int.reduceSub, Int.reduceNeg, Int.reduceMul, Int.reduceEq, ← Bool.decide_and, ← Bool.decide_or, ↓tq_n, ↓tq_e, ↓tq_r, ↓bq_n, ↓bq_e, ↓bq_r, ↓rq_n, ↓rq_r, ↓rq_e]
    exact ret_ok rfl
  | true =>
    simp only [F_law_PrecedenceWear, g_law_PrecedenceWear, go_sem, reduceIte, Nat.reduceEqDiff, Nat.reduceAdd, Nat.reduceMul, Nat.reduceSub, reduceCtorEq, Nat.reduceLeDiff, Nat.reduceLT, Int.reduceLT, Int.reduceLE, Int.reduceToNat, Int.reduceAdd, Int.reduceSub, Int.reduceNeg, Int.reduceMul, Int.reduceEq, ← Bool.decide_and, ← Bool.decide_or, ↓tq_n, ↓tq_e, ↓tq_r, ↓bq_n, ↓bq_e, ↓bq_r, ↓rq_n, ↓rq_r, ↓rq_e]
    refine CallG.mk (r_precedence_Build n1 l u1 true [] .full _) ?_
    have hga := ga_nil (l := l)
    by_cases c1 : ckE l = 0
    case neg =>
      rw [if_neg c1] at hga
      have e1 : blV l [] = .tup [.sl true 0 [] .full, I (ckE l)] := by unfold blV; rw [hga, if_neg c1]
      have e2 : arV (fun s t => bfS s t 0 || bfS s t 1) l = .tup [.sl true 0 [] .full, I (ckE l)] := by unfold arV; rw [if_neg c1]
      have e3 : paV clS l = .tup [.sl true 0 [] .full, I (ckE l)] := by unfold paV; rw [if_neg c1]
      rw [e1]
      simp only [F_law_PrecedenceWear, g_law_PrecedenceWear, go_sem, reduceIte, Nat.reduceEqDiff, Nat.reduceAdd, Nat.reduceMul, Nat.reduceSub, reduceCtorEq, Nat.reduceLeDiff, Nat.reduceLT, Int.reduceLT, Int.reduceLE, Int.reduceToNat, Int.reduceAdd, Int.reduceSub, Int.reduceNeg, Int.reduceMul, Int.reduceEq, ← Bool.decide_and, ← Bool.decide_or, ↓tq_n, ↓tq_e, ↓tq_r, ↓bq_n, ↓bq_e, ↓bq_r, ↓rq_n, ↓rq_r, ↓rq_e]
      refine CallG.mk (r_wear_Arcs n1 l u1 _) ?_
      rw [e2]
      simp only [F_law_PrecedenceWear, g_law_PrecedenceWear, go_sem, reduceIte, Nat.reduceEqDiff, Nat.reduceAdd, Nat.reduceMul, Nat.reduceSub, reduceCtorEq, Nat.reduceLeDiff, Nat.reduceLT, Int.reduceLT, Int.reduceLE, Int.reduceToNat, Int.reduceAdd, Int.reduceSub, Int.reduceNeg, Int.reduceMul, Int.reduceEq, ← Bool.decide_and, ← Bool.decide_or, ↓tq_n, ↓tq_e, ↓tq_r, ↓bq_n, ↓bq_e, ↓bq_r, ↓rq_n, ↓rq_r, ↓rq_e]
      refine CallG.mk (r_wear_Clashes n1 l u1 _) ?_
      rw [e3]
      have hz : ((0 : Nat) : Int) = 0 := rfl
      simp only [c1, hz, F_law_PrecedenceWear, g_law_PrecedenceWear, go_sem, reduceIte, Nat.reduceEqDiff, Nat.reduceAdd, Nat.reduceMul, Nat.reduceSub, reduceCtorEq, Nat.reduceLeDiff, Nat.reduceLT, Int.reduceLT, Int.reduceLE, Int.reduceToNat, Int.reduceAdd, Int.reduceSub, Int.reduceNeg, Int.reduceMul, Int.reduceEq, ← Bool.decide_and, ← Bool.decide_or, ↓tq_n, ↓tq_e, ↓tq_r, ↓bq_n, ↓bq_e, ↓bq_r, ↓rq_n, ↓rq_r, ↓rq_e]
      exact ret_ok rfl
    rw [if_pos c1] at hga
    have e2 : arV (fun s t => bfS s t 0 || bfS s t 1) l = .tup [.sl (decide ((arcL (pcs l [])).length = 0)) (arcL (pcs l [])).length (prs (arcL (pcs l []))) .unk, I 0] := by unfold arV; rw [if_pos c1, wear_arcs]; rfl
    obtain ⟨C, hC⟩ : ∃ C, C = tbK (lat fun i k => clS (l.getD i dS) (l.getD k dS)) l.length l.length := ⟨_, rfl⟩
    have e3 : paV clS l = .tup [.sl (decide (C.length = 0)) C.length (prs C) .unk, I 0] := by unfold paV; rw [if_pos c1, hC]; rfl
    by_cases c2 : 24 < l.length
    · rw [if_pos c2] at hga
      have c2' : (24 : Int) < (l.length : Int) := by omega
      have e1 : blV l [] = .tup [.sl true 0 [] .full, I 6] := by unfold blV; rw [hga]; rfl
      rw [e1]
      simp only [F_law_PrecedenceWear, g_law_PrecedenceWear, go_sem, reduceIte, Nat.reduceEqDiff, Nat.reduceAdd, Nat.reduceMul, Nat.reduceSub, reduceCtorEq, Nat.reduceLeDiff, Nat.reduceLT, Int.reduceLT, Int.reduceLE, Int.reduceToNat, Int.reduceAdd, Int.reduceSub, Int.reduceNeg, Int.reduceMul, Int.reduceEq, ← Bool.decide_and, ← Bool.decide_or, ↓tq_n, ↓tq_e, ↓tq_r, ↓bq_n, ↓bq_e, ↓bq_r, ↓rq_n, ↓rq_r, ↓rq_e]
      refine CallG.mk (r_wear_Arcs n1 l u1 _) ?_
      rw [e2]
      simp only [F_law_PrecedenceWear, g_law_PrecedenceWear, go_sem, reduceIte, Nat.reduceEqDiff, Nat.reduceAdd, Nat.reduceMul, Nat.reduceSub, reduceCtorEq, Nat.reduceLeDiff, Nat.reduceLT, Int.reduceLT, Int.reduceLE, Int.reduceToNat, Int.reduceAdd, Int.reduceSub, Int.reduceNeg, Int.reduceMul, Int.reduceEq, ← Bool.decide_and, ← Bool.decide_or, ↓tq_n, ↓tq_e, ↓tq_r, ↓bq_n, ↓bq_e, ↓bq_r, ↓rq_n, ↓rq_r, ↓rq_e]
      refine CallG.mk (r_wear_Clashes n1 l u1 _) ?_
      rw [e3]
      have hz : ((0 : Nat) : Int) = 0 := rfl
      simp only [c2', hz, F_law_PrecedenceWear, g_law_PrecedenceWear, go_sem, reduceIte, Nat.reduceEqDiff, Nat.reduceAdd, Nat.reduceMul, Nat.reduceSub, reduceCtorEq, Nat.reduceLeDiff, Nat.reduceLT, Int.reduceLT, Int.reduceLE, Int.reduceToNat, Int.reduceAdd, Int.reduceSub, Int.reduceNeg, Int.reduceMul, Int.reduceEq, ← Bool.decide_and, ← Bool.decide_or, ↓tq_n, ↓tq_e, ↓tq_r, ↓bq_n, ↓bq_e, ↓bq_r, ↓rq_n, ↓rq_r, ↓rq_e]
      exact ret_ok rfl
    rw [if_neg c2] at hga
    have e1 : blV l [] = .tup [.sl (decide ((arcL (pcs l [])).length = 0)) (arcL (pcs l [])).length (prs (arcL (pcs l []))) .unk, I 0] := by unfold blV; rw [if_pos hga]; rfl
    rw [e1]
    simp only [F_law_PrecedenceWear, g_law_PrecedenceWear, go_sem, reduceIte, Nat.reduceEqDiff, Nat.reduceAdd, Nat.reduceMul, Nat.reduceSub, reduceCtorEq, Nat.reduceLeDiff, Nat.reduceLT, Int.reduceLT, Int.reduceLE, Int.reduceToNat, Int.reduceAdd, Int.reduceSub, Int.reduceNeg, Int.reduceMul, Int.reduceEq, ← Bool.decide_and, ← Bool.decide_or, ↓tq_n, ↓tq_e, ↓tq_r, ↓bq_n, ↓bq_e, ↓bq_r, ↓rq_n, ↓rq_r, ↓rq_e]
    refine CallG.mk (r_wear_Arcs n1 l u1 _) ?_
    rw [e2]
    simp only [F_law_PrecedenceWear, g_law_PrecedenceWear, go_sem, reduceIte, Nat.reduceEqDiff, Nat.reduceAdd, Nat.reduceMul, Nat.reduceSub, reduceCtorEq, Nat.reduceLeDiff, Nat.reduceLT, Int.reduceLT, Int.reduceLE, Int.reduceToNat, Int.reduceAdd, Int.reduceSub, Int.reduceNeg, Int.reduceMul, Int.reduceEq, ← Bool.decide_and, ← Bool.decide_or, ↓tq_n, ↓tq_e, ↓tq_r, ↓bq_n, ↓bq_e, ↓bq_r, ↓rq_n, ↓rq_r, ↓rq_e]
    refine CallG.mk (r_wear_Clashes n1 l u1 _) ?_
    rw [e3]
    simp only [F_law_PrecedenceWear, g_law_PrecedenceWear, go_sem, reduceIte, Nat.reduceEqDiff, Nat.reduceAdd, Nat.reduceMul, Nat.reduceSub, reduceCtorEq, Nat.reduceLeDiff, Nat.reduceLT, Int.reduceLT, Int.reduceLE, Int.reduceToNat, Int.reduceAdd, Int.reduceSub, Int.reduceNeg, Int.reduceMul, Int.reduceEq, ← Bool.decide_and, ← Bool.decide_or, ↓tq_n, ↓tq_e, ↓tq_r, ↓bq_n, ↓bq_e, ↓bq_r, ↓rq_n, ↓rq_r, ↓rq_e]
    refine CallG.mk (r_precedence_Consistent n1 l u1 true [] .full _) ?_
    have e4 : csV l [] = .tup [.bool (acB l []), I 0] := by unfold csV; rw [hga]; rfl
    rw [e4]
    simp only [F_law_PrecedenceWear, g_law_PrecedenceWear, go_sem, reduceIte, Nat.reduceEqDiff, Nat.reduceAdd, Nat.reduceMul, Nat.reduceSub, reduceCtorEq, Nat.reduceLeDiff, Nat.reduceLT, Int.reduceLT, Int.reduceLE, Int.reduceToNat, Int.reduceAdd, Int.reduceSub, Int.reduceNeg, Int.reduceMul, Int.reduceEq, ← Bool.decide_and, ← Bool.decide_or, ↓tq_n, ↓tq_e, ↓tq_r, ↓bq_n, ↓bq_e, ↓bq_r, ↓rq_n, ↓rq_r, ↓rq_e]
    refine CallG.mk (r_base_Arcs _ (arcL (pcs l [])) .unk _ (arcL (pcs l [])) .unk _) ?_
    rw [decide_eq_true rfl]
    cases C with
    | nil =>
      have hz : (([] : List (Int × Int)).length : Int) = 0 := rfl
      have hz2 : ((0 : Nat) : Int) = 0 := rfl
      simp only [hz, hz2, F_law_PrecedenceWear, g_law_PrecedenceWear, go_sem, reduceIte, Nat.reduceEqDiff, Nat.reduceAdd, Nat.reduceMul, Nat.reduceSub, reduceCtorEq, Nat.reduceLeDiff, Nat.reduceLT, Int.reduceLT, Int.reduceLE, Int.reduceToNat, Int.reduceAdd, Int.reduceSub, Int.reduceNeg, Int.reduceMul, Int.reduceEq, ← Bool.decide_and, ← Bool.decide_or, ↓tq_n, ↓tq_e, ↓tq_r, ↓bq_n, ↓bq_e, ↓bq_r, ↓rq_n, ↓rq_r, ↓rq_e]
      exact ret_ok rfl
    | cons x C' =>
      have hbad := clash_bad hga (x := x) (by rw [← hC]; simp)
      have hz : ¬ (((x :: C').length : Nat) : Int) = 0 := by simp only [List.length_cons]; omega
      have hz2 : ¬ ((C'.length : Int) + 1) = 0 := by omega
      have hz3 : ¬ ((C'.length + 1 : Nat) : Int) = 0 := by omega
      rw [hbad]
      simp only [hz, hz2, hz3, F_law_PrecedenceWear, g_law_PrecedenceWear, go_sem, reduceIte, Nat.reduceEqDiff, Nat.reduceAdd, Nat.reduceMul, Nat.reduceSub, reduceCtorEq, Nat.reduceLeDiff, Nat.reduceLT, Int.reduceLT, Int.reduceLE, Int.reduceToNat, Int.reduceAdd, Int.reduceSub, Int.reduceNeg, Int.reduceMul, Int.reduceEq, ← Bool.decide_and, ← Bool.decide_or, ↓tq_n, ↓tq_e, ↓tq_r, ↓bq_n, ↓bq_e, ↓bq_r, ↓rq_n, ↓rq_r, ↓rq_e]
      exact ret_ok rfl
end Go.Proofs.Ytndcbompcnlhmaa
