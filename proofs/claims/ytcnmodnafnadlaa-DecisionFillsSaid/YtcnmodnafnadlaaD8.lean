/- Calls of functions of this seat's program: the fixed calls; the statement DecisionKeeps as a call. No condition. -/
import Derived.Test.YtcnmodnafnadlaaD7
import Derived.Test.YtcnmodnafnadlaaC5
namespace Go.Proofs.Ytcnmodnafnadlaa
open Go Go.Abs
set_option linter.unusedSimpArgs false
set_option linter.unusedVariables false
set_option maxRecDepth 20000

def dW : Dec := ⟨1, 5, 1, 3, 7⟩
def sW : St := ([dW], [(1, 5)])
theorem wW : wdL s0.2 (1, 5) = (0, [(1, 5)]) := by simp [wdL, mkOK, s0]
theorem mW : mkL s0.1 dW = (0, [dW]) := by simp [mkL, dcOK, mkOK, dW, Dec.mk2, s0]
theorem okW : OKs sW := ⟨⟨by simp [sW], by simp [sW]⟩, by simp [sW, Dst], by simp [sW]⟩
theorem srtW : srtD sW.1 = [dW] := by simp [srtD, sW]
theorem stW : stL sW = [] := by unfold stL; rw [srtW]; simp [sW, dW, Dec.mk2]
theorem Led.w {h : AH} {lb b1 b2 : Nat} {s : St} (k : Led h lb b1 b2 s) (W : List (Int × Int)) : Led (h.putM b2 (enM W)) lb b1 b2 (s.1, W) := ⟨k.blk, (AH.mp_putM_ne _ _ k.ne).trans k.m1, AH.mp_putM _ _ _, k.ne⟩
theorem Led.m {h : AH} {lb b1 b2 : Nat} {s : St} (k : Led h lb b1 b2 s) (M : List Dec) : Led (h.putM b1 (enD M)) lb b1 b2 (M, s.2) := ⟨k.blk, AH.mp_putM _ _ _, (AH.mp_putM_ne _ _ (Ne.symm k.ne)).trans k.m2, k.ne⟩
set_option maxHeartbeats 2000000 in
theorem r_law_awake (h : AH) : RCall Try.prog n_law_awake [] h (.bool true) := by
  refine RCall.of hm cF_law_awake (by simp [g_law_awake]) fun hw h' hl => ?_
  simp only [F_law_awake, g_law_awake, go_sem, reduceIte, Nat.reduceEqDiff, Nat.reduceAdd, Nat.reduceMul, Nat.reduceSub, reduceCtorEq, Nat.reduceLeDiff, Nat.reduceLT, Int.reduceLT, Int.reduceLE, Int.reduceToNat, Int.reduceAdd, Int.reduceSub, Int.reduceNeg, Int.reduceMul, Int.reduceEq, ← Bool.decide_and, ← Bool.decide_or, ↓tq_n, ↓tq_e, ↓tq_r, ↓bq_n, ↓bq_e, ↓bq_r, ↓rq_n, ↓rq_r, ↓rq_e]
  refine CallS.mk (s_decision_New _) fun r H' hr => ?_
  obtain ⟨lb, b1, b2, k1, k2, k3, k4, rfl, rfl⟩ := hr
  have hk := Led.new (h := h') (lb := lb) k4
  obtain ⟨H, hH⟩ : ∃ H, H = newA h' lb b1 b2 := ⟨_, rfl⟩
  have hle : h'.le H := by
    rw [hH]
    unfold newA
    exact AH.le_put (AH.le_putM (AH.le_putM (AH.le.refl _) k2) k3) k1
  rw [← hH] at hk ⊢
  simp only [F_law_awake, g_law_awake, go_sem, reduceIte, Nat.reduceEqDiff, Nat.reduceAdd, Nat.reduceMul, Nat.reduceSub, reduceCtorEq, Nat.reduceLeDiff, Nat.reduceLT, Int.reduceLT, Int.reduceLE, Int.reduceToNat, Int.reduceAdd, Int.reduceSub, Int.reduceNeg, Int.reduceMul, Int.reduceEq, ← Bool.decide_and, ← Bool.decide_or, ↓tq_n, ↓tq_e, ↓tq_r, ↓bq_n, ↓bq_e, ↓bq_r, ↓rq_n, ↓rq_r, ↓rq_e]
  refine CallS.mk (r_decision_Ledger_Withdraw lb b1 b2 s0.2 (1, 5) (by simp [s0]) _ hk.blk hk.m2) fun r H' hr => ?_
  obtain ⟨rfl, rfl⟩ := hr
  have hk2 := hk.w (wdL s0.2 (1, 5)).2
  rw [wW] at hk2 ⊢
  simp only [F_law_awake, g_law_awake, go_sem, reduceIte, Nat.reduceEqDiff, Nat.reduceAdd, Nat.reduceMul, Nat.reduceSub, reduceCtorEq, Nat.reduceLeDiff, Nat.reduceLT, Int.reduceLT, Int.reduceLE, Int.reduceToNat, Int.reduceAdd, Int.reduceSub, Int.reduceNeg, Int.reduceMul, Int.reduceEq, ← Bool.decide_and, ← Bool.decide_or, ↓tq_n, ↓tq_e, ↓tq_r, ↓bq_n, ↓bq_e, ↓bq_r, ↓rq_n, ↓rq_r, ↓rq_e]
  refine CallS.mk (r_decision_Ledger_Make lb b1 b2 s0.1 dW (by simp [s0]) _ hk2.blk hk2.m1) fun r H' hr => ?_
  obtain ⟨rfl, rfl⟩ := hr
  have hk3 := hk2.m (mkL s0.1 dW).2
  rw [mW] at hk3 ⊢
  have hk4 : Led ((H.putM b2 (enM [(1, 5)])).putM b1 (enD [dW])) lb b1 b2 sW := hk3
  simp only [F_law_awake, g_law_awake, go_sem, reduceIte, Nat.reduceEqDiff, Nat.reduceAdd, Nat.reduceMul, Nat.reduceSub, reduceCtorEq, Nat.reduceLeDiff, Nat.reduceLT, Int.reduceLT, Int.reduceLE, Int.reduceToNat, Int.reduceAdd, Int.reduceSub, Int.reduceNeg, Int.reduceMul, Int.reduceEq, ← Bool.decide_and, ← Bool.decide_or, ↓tq_n, ↓tq_e, ↓tq_r, ↓bq_n, ↓bq_e, ↓bq_r, ↓rq_n, ↓rq_r, ↓rq_e]
  refine CallG.mk (r_decision_Ledger_Standing lb b1 b2 sW okW _ hk4) ?_
  have e1 : stV sW = .sl false 0 [] .unk := by unfold stV; rw [stW, srtW]; rfl
  rw [e1]
  simp only [F_law_awake, g_law_awake, go_sem, reduceIte, Nat.reduceEqDiff, Nat.reduceAdd, Nat.reduceMul, Nat.reduceSub, reduceCtorEq, Nat.reduceLeDiff, Nat.reduceLT, Int.reduceLT, Int.reduceLE, Int.reduceToNat, Int.reduceAdd, Int.reduceSub, Int.reduceNeg, Int.reduceMul, Int.reduceEq, ← Bool.decide_and, ← Bool.decide_or, ↓tq_n, ↓tq_e, ↓tq_r, ↓bq_n, ↓bq_e, ↓bq_r, ↓rq_n, ↓rq_r, ↓rq_e]
  refine ⟨fun _ => ?_, fun hh => absurd rfl hh⟩
  refine CallG.mk (r_decision_Ledger_Made lb b1 b2 sW okW _ hk4) ?_
  have e2 : lsD (srtD sW.1) = .sl false 1 (dcs [dW]) .unk := by unfold lsD; rw [srtW]; rfl
  rw [e2]
  simp only [F_law_awake, g_law_awake, go_sem, reduceIte, Nat.reduceEqDiff, Nat.reduceAdd, Nat.reduceMul, Nat.reduceSub, reduceCtorEq, Nat.reduceLeDiff, Nat.reduceLT, Int.reduceLT, Int.reduceLE, Int.reduceToNat, Int.reduceAdd, Int.reduceSub, Int.reduceNeg, Int.reduceMul, Int.reduceEq, ← Bool.decide_and, ← Bool.decide_or, ↓tq_n, ↓tq_e, ↓tq_r, ↓bq_n, ↓bq_e, ↓bq_r, ↓rq_n, ↓rq_r, ↓rq_e]
  refine CallG.mk (r_base_Decisions false [dW] .unk false [dW] .full _) ?_
  rw [decide_eq_true rfl]
  simp only [F_law_awake, g_law_awake, go_sem, reduceIte, Nat.reduceEqDiff, Nat.reduceAdd, Nat.reduceMul, Nat.reduceSub, reduceCtorEq, Nat.reduceLeDiff, Nat.reduceLT, Int.reduceLT, Int.reduceLE, Int.reduceToNat, Int.reduceAdd, Int.reduceSub, Int.reduceNeg, Int.reduceMul, Int.reduceEq, ← Bool.decide_and, ← Bool.decide_or, ↓tq_n, ↓tq_e, ↓tq_r, ↓bq_n, ↓bq_e, ↓bq_r, ↓rq_n, ↓rq_r, ↓rq_e]
  refine CallG.mk (r_decision_Valid dW _) ?_
  rw [decide_eq_true (show dcOK dW by simp [dcOK, mkOK, dW, Dec.mk2])]
  simp only [F_law_awake, g_law_awake, go_sem, reduceIte, Nat.reduceEqDiff, Nat.reduceAdd, Nat.reduceMul, Nat.reduceSub, reduceCtorEq, Nat.reduceLeDiff, Nat.reduceLT, Int.reduceLT, Int.reduceLE, Int.reduceToNat, Int.reduceAdd, Int.reduceSub, Int.reduceNeg, Int.reduceMul, Int.reduceEq, ← Bool.decide_and, ← Bool.decide_or, ↓tq_n, ↓tq_e, ↓tq_r, ↓bq_n, ↓bq_e, ↓bq_r, ↓rq_n, ↓rq_r, ↓rq_e]
  exact ret_le (by repeat' first | exact AH.le.refl _ | assumption | (refine AH.le_put ?_ (by first | assumption | exact (AH.blk_put_ne _ _ (by assumption)).trans (by assumption) | exact AH.none_put (by assumption) | exact AH.none_put (AH.none_put (by assumption)) | (simp only [AH.blk_setTok, AH.tok_put] at *; first | assumption | exact AH.none_put (by assumption)))) | (refine AH.le_setTok ?_ (by first | assumption | exact (AH.blk_put_ne _ _ (by assumption)).trans (by assumption) | exact AH.none_put (by assumption) | exact AH.none_put (AH.none_put (by assumption)) | (simp only [AH.blk_setTok, AH.tok_put] at *; first | assumption | exact AH.none_put (by assumption)))) | (refine AH.le_putM ?_ (by first | assumption | exact (AH.mp_putM_ne _ _ (by assumption)).trans (by assumption) | (simp only [AH.mp_put, AH.mp_setTok] at *; assumption)))) (AV.le.refl _)
set_option maxHeartbeats 4000000 in
theorem r_law_DecisionKeeps (nl : Bool) (l : List Op) (tl : Tail) (h : AH) : RCall Try.prog n_law_DecisionKeeps [.sl nl l.length (ops l) tl] h (.bool true) := by
  refine RCall.of hm cF_law_DecisionKeeps (by simp [g_law_DecisionKeeps]) fun hw h' hl => ?_
  simp only [F_law_DecisionKeeps, g_law_DecisionKeeps, go_sem, reduceIte, Nat.reduceEqDiff, Nat.reduceAdd, Nat.reduceMul, Nat.reduceSub, reduceCtorEq, Nat.reduceLeDiff, Nat.reduceLT, Int.reduceLT, Int.reduceLE, Int.reduceToNat, Int.reduceAdd, Int.reduceSub, Int.reduceNeg, Int.reduceMul, Int.reduceEq, ← Bool.decide_and, ← Bool.decide_or, ↓tq_n, ↓tq_e, ↓tq_r, ↓bq_n, ↓bq_e, ↓bq_r, ↓rq_n, ↓rq_r, ↓rq_e]
  refine CallG.mk (r_law_awake _) ?_
  simp only [F_law_DecisionKeeps, g_law_DecisionKeeps, go_sem, reduceIte, Nat.reduceEqDiff, Nat.reduceAdd, Nat.reduceMul, Nat.reduceSub, reduceCtorEq, Nat.reduceLeDiff, Nat.reduceLT, Int.reduceLT, Int.reduceLE, Int.reduceToNat, Int.reduceAdd, Int.reduceSub, Int.reduceNeg, Int.reduceMul, Int.reduceEq, ← Bool.decide_and, ← Bool.decide_or, ↓tq_n, ↓tq_e, ↓tq_r, ↓bq_n, ↓bq_e, ↓bq_r, ↓rq_n, ↓rq_r, ↓rq_e]
  refine CallG.mk (r_law_few nl l tl _) ?_
  by_cases hf : l.length ≤ 60
  case neg =>
    rw [decide_eq_false hf]
    simp only [F_law_DecisionKeeps, g_law_DecisionKeeps, go_sem, reduceIte, Nat.reduceEqDiff, Nat.reduceAdd, Nat.reduceMul, Nat.reduceSub, reduceCtorEq, Nat.reduceLeDiff, Nat.reduceLT, Int.reduceLT, Int.reduceLE, Int.reduceToNat, Int.reduceAdd, Int.reduceSub, Int.reduceNeg, Int.reduceMul, Int.reduceEq, ← Bool.decide_and, ← Bool.decide_or, ↓tq_n, ↓tq_e, ↓tq_r, ↓bq_n, ↓bq_e, ↓bq_r, ↓rq_n, ↓rq_r, ↓rq_e]
    refine CallG.mk (r_law_awake _) ?_
    simp only [F_law_DecisionKeeps, g_law_DecisionKeeps, go_sem, reduceIte, Nat.reduceEqDiff, Nat.reduceAdd, Nat.reduceMul, Nat.reduceSub, reduceCtorEq, Nat.reduceLeDiff, Nat.reduceLT, Int.reduceLT, Int.reduceLE, Int.reduceToNat, Int.reduceAdd, Int.reduceSub, Int.reduceNeg, Int.reduceMul, Int.reduceEq, ← Bool.decide_and, ← Bool.decide_or, ↓tq_n, ↓tq_e, ↓tq_r, ↓bq_n, ↓bq_e, ↓bq_r, ↓rq_n, ↓rq_r, ↓rq_e]
    exact ret_ok rfl
  rw [decide_eq_true hf]
  simp only [F_law_DecisionKeeps, g_law_DecisionKeeps, go_sem, reduceIte, Nat.reduceEqDiff, Nat.reduceAdd, Nat.reduceMul, Nat.reduceSub, reduceCtorEq, Nat.reduceLeDiff, Nat.reduceLT, Int.reduceLT, Int.reduceLE, Int.reduceToNat, Int.reduceAdd, Int.reduceSub, Int.reduceNeg, Int.reduceMul, Int.reduceEq, ← Bool.decide_and, ← Bool.decide_or, ↓tq_n, ↓tq_e, ↓tq_r, ↓bq_n, ↓bq_e, ↓bq_r, ↓rq_n, ↓rq_r, ↓rq_e]
  refine CallS.mk (s_decision_New _) fun r H' hr => ?_
  obtain ⟨lb, b1, b2, k1, k2, k3, k4, rfl, rfl⟩ := hr
  have hk := Led.new (h := h') (lb := lb) k4
  obtain ⟨H, hH⟩ : ∃ H, H = newA h' lb b1 b2 := ⟨_, rfl⟩
  have hle : h'.le H := by
    rw [hH]
    unfold newA
    exact AH.le_put (AH.le_putM (AH.le_putM (AH.le.refl _) k2) k3) k1
  rw [← hH] at hk ⊢
  simp only [F_law_DecisionKeeps, g_law_DecisionKeeps, go_sem, reduceIte, Nat.reduceEqDiff, Nat.reduceAdd, Nat.reduceMul, Nat.reduceSub, reduceCtorEq, Nat.reduceLeDiff, Nat.reduceLT, Int.reduceLT, Int.reduceLE, Int.reduceToNat, Int.reduceAdd, Int.reduceSub, Int.reduceNeg, Int.reduceMul, Int.reduceEq, ← Bool.decide_and, ← Bool.decide_or, ↓tq_n, ↓tq_e, ↓tq_r, ↓bq_n, ↓bq_e, ↓bq_r, ↓rq_n, ↓rq_r, ↓rq_e]
  refine CallS.mk (s_ref_New _) fun r H' hr => ?_
  obtain ⟨rb, r1, rfl, rfl⟩ := hr
  have hrl : rb ≠ lb := fun e => by rw [e, hk.blk] at r1; cases r1
  have hrb : h'.blk rb = none := by
    cases hb : h'.blk rb with
    | none => rfl
    | some c => rw [hle.blk _ _ hb] at r1; cases r1
  have h00 : srS (runA s0 (l.take 0)) = s0 := sr0 _
  have h01 : setL H b1 b2 (runA s0 (l.take 0)) = H := by rw [show runA s0 (l.take 0) = s0 by simp [runA]]; exact hk.self
  simp only [F_law_DecisionKeeps, g_law_DecisionKeeps, go_sem, reduceIte, Nat.reduceEqDiff, Nat.reduceAdd, Nat.reduceMul, Nat.reduceSub, reduceCtorEq, Nat.reduceLeDiff, Nat.reduceLT, Int.reduceLT, Int.reduceLE, Int.reduceToNat, Int.reduceAdd, Int.reduceSub, Int.reduceNeg, Int.reduceMul, Int.reduceEq, ← Bool.decide_and, ← Bool.decide_or, ↓tq_n, ↓tq_e, ↓tq_r, ↓bq_n, ↓bq_e, ↓bq_r, ↓rq_n, ↓rq_r, ↓rq_e]
  refine awp_loop (α := Nat × RT) (fun p => [(0, .sl nl l.length (ops l) tl), (3, .ptr lb 0), (4, .ptr rb 0), (5, I p.1)]) (fun p => (setL H b1 b2 (runA s0 (l.take p.1))).put rb (rbk p.2 (srS (runA s0 (l.take p.1))))) (fun p => p.1 ≤ l.length) (fun p => l.length - p.1) (0, (true, .full, true, .full)) (Nat.zero_le _) (by simp only [h00, h01]; exact (GStep.forget (by repeat' first | exact EnvLe.nil _ | refine EnvLe.cons (AV.le.of_eq rfl) ?_ | refine EnvLe.cons (AV.le.undef _) ?_ | refine EnvLe.cons AV.le.unk ?_) (by repeat' first | exact AH.le.refl _ | assumption | (refine AH.le_put ?_ (by first | assumption | exact (AH.blk_put_ne _ _ (by assumption)).trans (by assumption) | exact AH.none_put (by assumption) | exact AH.none_put (AH.none_put (by assumption)) | (simp only [AH.blk_setTok, AH.tok_put] at *; first | assumption | exact AH.none_put (by assumption)))) | (refine AH.le_setTok ?_ (by first | assumption | exact (AH.blk_put_ne _ _ (by assumption)).trans (by assumption) | exact AH.none_put (by assumption) | exact AH.none_put (AH.none_put (by assumption)) | (simp only [AH.blk_setTok, AH.tok_put] at *; first | assumption | exact AH.none_put (by assumption)))) | (refine AH.le_putM ?_ (by first | assumption | exact (AH.mp_putM_ne _ _ (by assumption)).trans (by assumption) | (simp only [AH.mp_put, AH.mp_setTok] at *; assumption)))))) fun p hp => .of_vg hm ?_
  obtain ⟨i, q⟩ := p
  simp only at hp ⊢
  have hok := runA_ok (l.take i) ok0
  have hkk := (hk.set (runA s0 (l.take i))).put' hrl (rbk q (srS (runA s0 (l.take i))))
  by_cases h3 : i < l.length
  case neg =>
    have h3 : i = l.length := by omega
    subst h3
    rw [List.take_length] at hok hkk ⊢
    have hfw : Few (srS (runA s0 l)) := ⟨by unfold srS; simp only [srtD_len]; exact hok.few.1, by unfold srS; simp only [srtM_len]; exact hok.few.2⟩
    simp only [F_law_DecisionKeeps, g_law_DecisionKeeps, go_sem, reduceIte, Nat.reduceEqDiff, Nat.reduceAdd, Nat.reduceMul, Nat.reduceSub, reduceCtorEq, Nat.reduceLeDiff, Nat.reduceLT, Int.reduceLT, Int.reduceLE, Int.reduceToNat, Int.reduceAdd, Int.reduceSub, Int.reduceNeg, Int.reduceMul, Int.reduceEq, ← Bool.decide_and, ← Bool.decide_or, ↓tq_n, ↓tq_e, ↓tq_r, ↓bq_n, ↓bq_e, ↓bq_r, ↓rq_n, ↓rq_r, ↓rq_e]
    refine CallG.mk (r_law_same lb b1 b2 rb q (runA s0 l) _ hok _ hkk (AH.blk_put _ _ _) hfw) ?_
    rw [decide_eq_true rfl]
    simp only [F_law_DecisionKeeps, g_law_DecisionKeeps, go_sem, reduceIte, Nat.reduceEqDiff, Nat.reduceAdd, Nat.reduceMul, Nat.reduceSub, reduceCtorEq, Nat.reduceLeDiff, Nat.reduceLT, Int.reduceLT, Int.reduceLE, Int.reduceToNat, Int.reduceAdd, Int.reduceSub, Int.reduceNeg, Int.reduceMul, Int.reduceEq, ← Bool.decide_and, ← Bool.decide_or, ↓tq_n, ↓tq_e, ↓tq_r, ↓bq_n, ↓bq_e, ↓bq_r, ↓rq_n, ↓rq_r, ↓rq_e]
    refine ret_le ?_ (AV.le.refl _)
    unfold setL
    exact AH.le_put (AH.le_putM (AH.le_putM hle k2) k3) hrb
  have hc : (i : Int) < (l.length : Int) := by omega
  have hrt := runA_take s0 h3
  obtain ⟨s, hs⟩ : ∃ s, s = runA s0 (l.take i) := ⟨_, rfl⟩
  obtain ⟨o, ho⟩ : ∃ o, o = l.getD i dO := ⟨_, rfl⟩
  have hod := ops_drop h3
  rw [← hs] at hok hkk hrt ⊢
  rw [← ho] at hrt hod
  have hsm := do_sim hok o
  have hfw : Few (srS s) := ⟨by unfold srS; simp only [srtD_len]; exact hok.few.1, by unfold srS; simp only [srtM_len]; exact hok.few.2⟩
  simp only [hc, hod, F_law_DecisionKeeps, g_law_DecisionKeeps, go_sem, reduceIte, Nat.reduceEqDiff, Nat.reduceAdd, Nat.reduceMul, Nat.reduceSub, reduceCtorEq, Nat.reduceLeDiff, Nat.reduceLT, Int.reduceLT, Int.reduceLE, Int.reduceToNat, Int.reduceAdd, Int.reduceSub, Int.reduceNeg, Int.reduceMul, Int.reduceEq, ← Bool.decide_and, ← Bool.decide_or, ↓tq_n, ↓tq_e, ↓tq_r, ↓bq_n, ↓bq_e, ↓bq_r, ↓rq_n, ↓rq_r, ↓rq_e]
  refine CallG.mk (r_decision_Valid o.d _) ?_
  simp only [hc, hod, F_law_DecisionKeeps, g_law_DecisionKeeps, go_sem, reduceIte, Nat.reduceEqDiff, Nat.reduceAdd, Nat.reduceMul, Nat.reduceSub, reduceCtorEq, Nat.reduceLeDiff, Nat.reduceLT, Int.reduceLT, Int.reduceLE, Int.reduceToNat, Int.reduceAdd, Int.reduceSub, Int.reduceNeg, Int.reduceMul, Int.reduceEq, ← Bool.decide_and, ← Bool.decide_or, ↓tq_n, ↓tq_e, ↓tq_r, ↓bq_n, ↓bq_e, ↓bq_r, ↓rq_n, ↓rq_r, ↓rq_e]
  refine CallG.mk (r_ref_Valid o.d _) ?_
  simp only [hc, hod, F_law_DecisionKeeps, g_law_DecisionKeeps, go_sem, reduceIte, Nat.reduceEqDiff, Nat.reduceAdd, Nat.reduceMul, Nat.reduceSub, reduceCtorEq, Nat.reduceLeDiff, Nat.reduceLT, Int.reduceLT, Int.reduceLE, Int.reduceToNat, Int.reduceAdd, Int.reduceSub, Int.reduceNeg, Int.reduceMul, Int.reduceEq, ← Bool.decide_and, ← Bool.decide_or, ↓tq_n, ↓tq_e, ↓tq_r, ↓bq_n, ↓bq_e, ↓bq_r, ↓rq_n, ↓rq_r, ↓rq_e]
  refine CallS.mk (r_law_do lb b1 b2 s o hok.few _ hkk) fun r H' hr => ?_
  obtain ⟨rfl, rfl⟩ := hr
  rw [setL_put, setL_setL _ k4, ← hrt]
  simp only [F_law_DecisionKeeps, g_law_DecisionKeeps, go_sem, reduceIte, Nat.reduceEqDiff, Nat.reduceAdd, Nat.reduceMul, Nat.reduceSub, reduceCtorEq, Nat.reduceLeDiff, Nat.reduceLT, Int.reduceLT, Int.reduceLE, Int.reduceToNat, Int.reduceAdd, Int.reduceSub, Int.reduceNeg, Int.reduceMul, Int.reduceEq, ← Bool.decide_and, ← Bool.decide_or, ↓tq_n, ↓tq_e, ↓tq_r, ↓bq_n, ↓bq_e, ↓bq_r, ↓rq_n, ↓rq_r, ↓rq_e]
  refine CallS.mk (r_law_refer rb q (srS s) o hfw _ (AH.blk_put _ _ _)) fun r H' hr => ?_
  obtain ⟨rfl, q', rfl⟩ := hr
  rw [hsm, ← hrt]
  simp only [F_law_DecisionKeeps, g_law_DecisionKeeps, go_sem, reduceIte, Nat.reduceEqDiff, Nat.reduceAdd, Nat.reduceMul, Nat.reduceSub, reduceCtorEq, Nat.reduceLeDiff, Nat.reduceLT, Int.reduceLT, Int.reduceLE, Int.reduceToNat, Int.reduceAdd, Int.reduceSub, Int.reduceNeg, Int.reduceMul, Int.reduceEq, ← Bool.decide_and, ← Bool.decide_or, ↓tq_n, ↓tq_e, ↓tq_r, ↓bq_n, ↓bq_e, ↓bq_r, ↓rq_n, ↓rq_r, ↓rq_e]
  exact ⟨by rw [inR64]; omega, (i + 1, q'), by simp only; omega, by simp only; omega, (GStep.forget (by repeat' first | exact EnvLe.nil _ | refine EnvLe.cons (AV.le.of_eq rfl) ?_ | refine EnvLe.cons (AV.le.undef _) ?_ | refine EnvLe.cons AV.le.unk ?_) (by repeat' first | exact AH.le.refl _ | assumption | (refine AH.le_put ?_ (by first | assumption | exact (AH.blk_put_ne _ _ (by assumption)).trans (by assumption) | exact AH.none_put (by assumption) | exact AH.none_put (AH.none_put (by assumption)) | (simp only [AH.blk_setTok, AH.tok_put] at *; first | assumption | exact AH.none_put (by assumption)))) | (refine AH.le_setTok ?_ (by first | assumption | exact (AH.blk_put_ne _ _ (by assumption)).trans (by assumption) | exact AH.none_put (by assumption) | exact AH.none_put (AH.none_put (by assumption)) | (simp only [AH.blk_setTok, AH.tok_put] at *; first | assumption | exact AH.none_put (by assumption)))) | (refine AH.le_putM ?_ (by first | assumption | exact (AH.mp_putM_ne _ _ (by assumption)).trans (by assumption) | (simp only [AH.mp_put, AH.mp_setTok] at *; assumption)))))⟩
end Go.Proofs.Ytcnmodnafnadlaa
