/- Calls of functions of this seat's program: new ledgers, ledgers after some calls, the fixed calls. No condition. -/
import Derived.Test.YtcnmodnafnadlaaD6
namespace Go.Proofs.Ytcnmodnafnadlaa
open Go Go.Abs
set_option linter.unusedSimpArgs false
set_option linter.unusedVariables false
set_option maxRecDepth 20000

/-- A new ledger. -/
def newA (h : AH) (lb b1 b2 : Nat) : AH := ((h.putM b1 []).putM b2 []).put lb [.map b1, .map b2]
def s0 : St := ([], [])
theorem ok0 : OKs s0 := ⟨⟨by simp [s0], by simp [s0]⟩, by simp [s0, Dst], by simp [s0]⟩
theorem Led.new {h : AH} {lb b1 b2 : Nat} (hn : b1 ≠ b2) : Led (newA h lb b1 b2) lb b1 b2 s0 :=
  ⟨AH.blk_put _ _ _, (AH.mp_putM_ne _ _ hn).trans (AH.mp_putM _ _ _), AH.mp_putM _ _ _, hn⟩
theorem s_decision_New (h : AH) : ACalls Try.prog n_decision_New [] h fun r g => ∃ lb b1 b2, h.blk lb = none ∧ h.mp b1 = none ∧ h.mp b2 = none ∧ b1 ≠ b2 ∧ r = .ptr lb 0 ∧ g = newA h lb b1 b2 := by
  refine ACalls.of hm cF_decision_New (by simp [g_decision_New]) fun hw => ?_
  simp only [F_decision_New, g_decision_New, go_sem, reduceIte, Nat.reduceEqDiff, Nat.reduceAdd, Nat.reduceMul, Nat.reduceSub, reduceCtorEq, Nat.reduceLeDiff, Nat.reduceLT, Int.reduceLT, Int.reduceLE, Int.reduceToNat, Int.reduceAdd, Int.reduceSub, Int.reduceNeg, Int.reduceMul, Int.reduceEq, ← Bool.decide_and, ← Bool.decide_or, ↓tq_n, ↓tq_e, ↓tq_r, ↓bq_n, ↓bq_e, ↓bq_r, ↓rq_n, ↓rq_r, ↓rq_e]
  refine NewMG.mk fun b1 hb1 => ?_
  simp only [F_decision_New, g_decision_New, go_sem, reduceIte, Nat.reduceEqDiff, Nat.reduceAdd, Nat.reduceMul, Nat.reduceSub, reduceCtorEq, Nat.reduceLeDiff, Nat.reduceLT, Int.reduceLT, Int.reduceLE, Int.reduceToNat, Int.reduceAdd, Int.reduceSub, Int.reduceNeg, Int.reduceMul, Int.reduceEq, ← Bool.decide_and, ← Bool.decide_or, ↓tq_n, ↓tq_e, ↓tq_r, ↓bq_n, ↓bq_e, ↓bq_r, ↓rq_n, ↓rq_r, ↓rq_e]
  refine NewMG.mk fun b2 hb2 => ?_
  have hne : b1 ≠ b2 := fun e => by subst e; rw [AH.mp_putM] at hb2; cases hb2
  simp only [F_decision_New, g_decision_New, go_sem, reduceIte, Nat.reduceEqDiff, Nat.reduceAdd, Nat.reduceMul, Nat.reduceSub, reduceCtorEq, Nat.reduceLeDiff, Nat.reduceLT, Int.reduceLT, Int.reduceLE, Int.reduceToNat, Int.reduceAdd, Int.reduceSub, Int.reduceNeg, Int.reduceMul, Int.reduceEq, ← Bool.decide_and, ← Bool.decide_or, ↓tq_n, ↓tq_e, ↓tq_r, ↓bq_n, ↓bq_e, ↓bq_r, ↓rq_n, ↓rq_r, ↓rq_e]
  refine AllocG.mk fun lb hlb => ?_
  simp only [F_decision_New, g_decision_New, go_sem, reduceIte, Nat.reduceEqDiff, Nat.reduceAdd, Nat.reduceMul, Nat.reduceSub, reduceCtorEq, Nat.reduceLeDiff, Nat.reduceLT, Int.reduceLT, Int.reduceLE, Int.reduceToNat, Int.reduceAdd, Int.reduceSub, Int.reduceNeg, Int.reduceMul, Int.reduceEq, ← Bool.decide_and, ← Bool.decide_or, ↓tq_n, ↓tq_e, ↓tq_r, ↓bq_n, ↓bq_e, ↓bq_r, ↓rq_n, ↓rq_r, ↓rq_e]
  exact ⟨_, _, .refl _ _, lb, b1, b2, hlb, hb1, (AH.mp_putM_ne _ _ (Ne.symm hne)).symm.trans hb2, hne, rfl, rfl⟩
theorem s_ref_New (h : AH) : ACalls Try.prog n_ref_New [] h fun r g => ∃ rb, h.blk rb = none ∧ r = .ptr rb 0 ∧ g = h.put rb (rbk (true, .full, true, .full) s0) := by
  refine ACalls.of hm cF_ref_New (by simp [g_ref_New]) fun hw => ?_
  simp only [F_ref_New, g_ref_New, go_sem, reduceIte, Nat.reduceEqDiff, Nat.reduceAdd, Nat.reduceMul, Nat.reduceSub, reduceCtorEq, Nat.reduceLeDiff, Nat.reduceLT, Int.reduceLT, Int.reduceLE, Int.reduceToNat, Int.reduceAdd, Int.reduceSub, Int.reduceNeg, Int.reduceMul, Int.reduceEq, ← Bool.decide_and, ← Bool.decide_or, ↓tq_n, ↓tq_e, ↓tq_r, ↓bq_n, ↓bq_e, ↓bq_r, ↓rq_n, ↓rq_r, ↓rq_e]
  refine AllocG.mk fun rb hrb => ?_
  simp only [F_ref_New, g_ref_New, go_sem, reduceIte, Nat.reduceEqDiff, Nat.reduceAdd, Nat.reduceMul, Nat.reduceSub, reduceCtorEq, Nat.reduceLeDiff, Nat.reduceLT, Int.reduceLT, Int.reduceLE, Int.reduceToNat, Int.reduceAdd, Int.reduceSub, Int.reduceNeg, Int.reduceMul, Int.reduceEq, ← Bool.decide_and, ← Bool.decide_or, ↓tq_n, ↓tq_e, ↓tq_r, ↓bq_n, ↓bq_e, ↓bq_r, ↓rq_n, ↓rq_r, ↓rq_e]
  exact ⟨_, _, .refl _ _, rb, hrb, rfl, rfl⟩
/-- After some calls. -/
def runA (s : St) (l : List Op) : St := l.foldl (fun s o => (doA s o).2) s
def fineA : St → List Op → Bool
  | _, [] => true
  | s, o :: r => decide ((doA s o).1 = 0) && fineA (doA s o).2 r
theorem runA_snoc (s : St) (l : List Op) (o : Op) : runA s (l ++ [o]) = (doA (runA s l) o).2 := by unfold runA; rw [List.foldl_append]; rfl
theorem runA_append (s : St) (l m : List Op) : runA s (l ++ m) = runA (runA s l) m := by unfold runA; rw [List.foldl_append]
theorem fineA_snoc (l : List Op) (o : Op) : ∀ s, fineA s (l ++ [o]) = (fineA s l && decide ((doA (runA s l) o).1 = 0)) := by
  induction l with
  | nil =>
    intro s
    simp only [List.nil_append, fineA, Bool.and_true, Bool.true_and]
    rfl
  | cons x l ih =>
    intro s
    have e : runA s (x :: l) = runA (doA s x).2 l := rfl
    simp only [List.cons_append, fineA, ih, e, Bool.and_assoc]
theorem runA_ok (l : List Op) : ∀ {s : St}, OKs s → OKs (runA s l) := by
  induction l with
  | nil => intro s h; exact h
  | cons o l ih => intro s h; exact ih (doA_ok h o)
theorem runA_take {l : List Op} {i : Nat} (s : St) (h : i < l.length) : runA s (l.take (i + 1)) = (doA (runA s (l.take i)) (l.getD i dO)).2 := by rw [take_getD dO h, runA_snoc]
theorem sr0 (l : List Op) : srS (runA s0 (l.take 0)) = s0 := by simp [runA, srS, srtD, srtM, s0]
theorem Led.put' {h : AH} {lb b1 b2 b : Nat} {s : St} (k : Led h lb b1 b2 s) (hn : b ≠ lb) (cs : List AV) : Led (h.put b cs) lb b1 b2 s := k.put (Ne.symm hn) cs
theorem setL_put (h : AH) (b b1 b2 : Nat) (cs : List AV) (s : St) : setL (h.put b cs) b1 b2 s = (setL h b1 b2 s).put b cs := rfl
theorem setL_blk (h : AH) (b1 b2 : Nat) (s : St) : (setL h b1 b2 s).blk = h.blk := rfl
theorem setL_tok (h : AH) (b1 b2 : Nat) (s : St) : (setL h b1 b2 s).tok = h.tok := rfl
set_option maxHeartbeats 1000000 in
theorem s_law_made (nl : Bool) (l : List Op) (tl : Tail) (hl : l.length ≤ 1000) (h : AH) : ACalls Try.prog n_law_made [.sl nl l.length (ops l) tl] h fun r g => ∃ lb b1 b2, h.blk lb = none ∧ h.mp b1 = none ∧ h.mp b2 = none ∧ b1 ≠ b2 ∧ r = .tup [.ptr lb 0, .bool (fineA s0 l)] ∧ g = setL (newA h lb b1 b2) b1 b2 (runA s0 l) := by
  refine ACalls.of hm cF_law_made (by simp [g_law_made]) fun hw => ?_
  simp only [F_law_made, g_law_made, go_sem, reduceIte, Nat.reduceEqDiff, Nat.reduceAdd, Nat.reduceMul, Nat.reduceSub, reduceCtorEq, Nat.reduceLeDiff, Nat.reduceLT, Int.reduceLT, Int.reduceLE, Int.reduceToNat, Int.reduceAdd, Int.reduceSub, Int.reduceNeg, Int.reduceMul, Int.reduceEq, ← Bool.decide_and, ← Bool.decide_or, ↓tq_n, ↓tq_e, ↓tq_r, ↓bq_n, ↓bq_e, ↓bq_r, ↓rq_n, ↓rq_r, ↓rq_e]
  refine CallS.mk (s_decision_New _) fun r H' hr => ?_
  obtain ⟨lb, b1, b2, k1, k2, k3, k4, rfl, rfl⟩ := hr
  have hk := Led.new (h := h) (lb := lb) k4
  obtain ⟨H, hH⟩ : ∃ H, H = newA h lb b1 b2 := ⟨_, rfl⟩
  rw [← hH] at hk ⊢
  simp only [F_law_made, g_law_made, go_sem, reduceIte, Nat.reduceEqDiff, Nat.reduceAdd, Nat.reduceMul, Nat.reduceSub, reduceCtorEq, Nat.reduceLeDiff, Nat.reduceLT, Int.reduceLT, Int.reduceLE, Int.reduceToNat, Int.reduceAdd, Int.reduceSub, Int.reduceNeg, Int.reduceMul, Int.reduceEq, ← Bool.decide_and, ← Bool.decide_or, ↓tq_n, ↓tq_e, ↓tq_r, ↓bq_n, ↓bq_e, ↓bq_r, ↓rq_n, ↓rq_r, ↓rq_e]
  refine awp_loop (fun i : Nat => [(0, .sl nl l.length (ops l) tl), (4, .ptr lb 0), (5, .bool (fineA s0 (l.take i))), (6, I i)]) (fun i => setL H b1 b2 (runA s0 (l.take i))) (fun i => i ≤ l.length) (fun i => l.length - i) 0 (Nat.zero_le _) (by rw [show runA s0 (l.take 0) = s0 by simp [runA], hk.self]; exact (GStep.forget (by repeat' first | exact EnvLe.nil _ | refine EnvLe.cons (AV.le.of_eq rfl) ?_ | refine EnvLe.cons (AV.le.undef _) ?_ | refine EnvLe.cons AV.le.unk ?_) (by repeat' first | exact AH.le.refl _ | assumption | (refine AH.le_put ?_ (by first | assumption | exact (AH.blk_put_ne _ _ (by assumption)).trans (by assumption) | exact AH.none_put (by assumption) | exact AH.none_put (AH.none_put (by assumption)) | (simp only [AH.blk_setTok, AH.tok_put] at *; first | assumption | exact AH.none_put (by assumption)))) | (refine AH.le_setTok ?_ (by first | assumption | exact (AH.blk_put_ne _ _ (by assumption)).trans (by assumption) | exact AH.none_put (by assumption) | exact AH.none_put (AH.none_put (by assumption)) | (simp only [AH.blk_setTok, AH.tok_put] at *; first | assumption | exact AH.none_put (by assumption)))) | (refine AH.le_putM ?_ (by first | assumption | exact (AH.mp_putM_ne _ _ (by assumption)).trans (by assumption) | (simp only [AH.mp_put, AH.mp_setTok] at *; assumption)))))) fun i hi => .of_vg hm ?_
  by_cases h3 : i < l.length
  case neg =>
    have h3 : i = l.length := by omega
    subst h3
    rw [List.take_length]
    simp only [F_law_made, g_law_made, go_sem, reduceIte, Nat.reduceEqDiff, Nat.reduceAdd, Nat.reduceMul, Nat.reduceSub, reduceCtorEq, Nat.reduceLeDiff, Nat.reduceLT, Int.reduceLT, Int.reduceLE, Int.reduceToNat, Int.reduceAdd, Int.reduceSub, Int.reduceNeg, Int.reduceMul, Int.reduceEq, ← Bool.decide_and, ← Bool.decide_or, ↓tq_n, ↓tq_e, ↓tq_r, ↓bq_n, ↓bq_e, ↓bq_r, ↓rq_n, ↓rq_r, ↓rq_e]
    exact ⟨_, _, .refl _ _, lb, b1, b2, k1, k2, k3, k4, rfl, by rw [hH]⟩
  have hc : (i : Int) < (l.length : Int) := by omega
  have hok := runA_ok (l.take i) ok0
  have hkk := hk.set (runA s0 (l.take i))
  have hrt := runA_take s0 h3
  have hft : fineA s0 (l.take (i + 1)) = (fineA s0 (l.take i) && decide ((doA (runA s0 (l.take i)) (l.getD i dO)).1 = 0)) := by rw [take_getD dO h3, fineA_snoc]
  obtain ⟨s, hs⟩ : ∃ s, s = runA s0 (l.take i) := ⟨_, rfl⟩
  obtain ⟨o, ho⟩ : ∃ o, o = l.getD i dO := ⟨_, rfl⟩
  have hod := ops_drop h3
  rw [← hs] at hok hkk hrt hft ⊢
  rw [← ho] at hrt hft hod
  simp only [hc, hod, F_law_made, g_law_made, go_sem, reduceIte, Nat.reduceEqDiff, Nat.reduceAdd, Nat.reduceMul, Nat.reduceSub, reduceCtorEq, Nat.reduceLeDiff, Nat.reduceLT, Int.reduceLT, Int.reduceLE, Int.reduceToNat, Int.reduceAdd, Int.reduceSub, Int.reduceNeg, Int.reduceMul, Int.reduceEq, ← Bool.decide_and, ← Bool.decide_or, ↓tq_n, ↓tq_e, ↓tq_r, ↓bq_n, ↓bq_e, ↓bq_r, ↓rq_n, ↓rq_r, ↓rq_e]
  refine CallS.mk (r_law_do lb b1 b2 s o hok.few _ hkk) fun r H' hr => ?_
  obtain ⟨rfl, rfl⟩ := hr
  rw [setL_setL _ k4, ← hrt]
  by_cases c : (doA s o).1 = 0
  · rw [decide_eq_true c, Bool.and_true] at hft
    simp only [decide_eq_true c, F_law_made, g_law_made, go_sem, reduceIte, Nat.reduceEqDiff, Nat.reduceAdd, Nat.reduceMul, Nat.reduceSub, reduceCtorEq, Nat.reduceLeDiff, Nat.reduceLT, Int.reduceLT, Int.reduceLE, Int.reduceToNat, Int.reduceAdd, Int.reduceSub, Int.reduceNeg, Int.reduceMul, Int.reduceEq, ← Bool.decide_and, ← Bool.decide_or, ↓tq_n, ↓tq_e, ↓tq_r, ↓bq_n, ↓bq_e, ↓bq_r, ↓rq_n, ↓rq_r, ↓rq_e]
    refine ⟨by rw [inR64]; omega, i + 1, by omega, by omega, ?_⟩
    rw [hft]
    exact (GStep.forget (by repeat' first | exact EnvLe.nil _ | refine EnvLe.cons (AV.le.of_eq rfl) ?_ | refine EnvLe.cons (AV.le.undef _) ?_ | refine EnvLe.cons AV.le.unk ?_) (by repeat' first | exact AH.le.refl _ | assumption | (refine AH.le_put ?_ (by first | assumption | exact (AH.blk_put_ne _ _ (by assumption)).trans (by assumption) | exact AH.none_put (by assumption) | exact AH.none_put (AH.none_put (by assumption)) | (simp only [AH.blk_setTok, AH.tok_put] at *; first | assumption | exact AH.none_put (by assumption)))) | (refine AH.le_setTok ?_ (by first | assumption | exact (AH.blk_put_ne _ _ (by assumption)).trans (by assumption) | exact AH.none_put (by assumption) | exact AH.none_put (AH.none_put (by assumption)) | (simp only [AH.blk_setTok, AH.tok_put] at *; first | assumption | exact AH.none_put (by assumption)))) | (refine AH.le_putM ?_ (by first | assumption | exact (AH.mp_putM_ne _ _ (by assumption)).trans (by assumption) | (simp only [AH.mp_put, AH.mp_setTok] at *; assumption)))))
  · rw [decide_eq_false c, Bool.and_false] at hft
    simp only [c, decide_eq_false c, F_law_made, g_law_made, go_sem, reduceIte, Nat.reduceEqDiff, Nat.reduceAdd, Nat.reduceMul, Nat.reduceSub, reduceCtorEq, Nat.reduceLeDiff, Nat.reduceLT, Int.reduceLT, Int.reduceLE, Int.reduceToNat, Int.reduceAdd, Int.reduceSub, Int.reduceNeg, Int.reduceMul, Int.reduceEq, ← Bool.decide_and, ← Bool.decide_or, ↓tq_n, ↓tq_e, ↓tq_r, ↓bq_n, ↓bq_e, ↓bq_r, ↓rq_n, ↓rq_r, ↓rq_e]
    refine ⟨by rw [inR64]; omega, i + 1, by omega, by omega, ?_⟩
    rw [hft]
    exact (GStep.forget (by repeat' first | exact EnvLe.nil _ | refine EnvLe.cons (AV.le.of_eq rfl) ?_ | refine EnvLe.cons (AV.le.undef _) ?_ | refine EnvLe.cons AV.le.unk ?_) (by repeat' first | exact AH.le.refl _ | assumption | (refine AH.le_put ?_ (by first | assumption | exact (AH.blk_put_ne _ _ (by assumption)).trans (by assumption) | exact AH.none_put (by assumption) | exact AH.none_put (AH.none_put (by assumption)) | (simp only [AH.blk_setTok, AH.tok_put] at *; first | assumption | exact AH.none_put (by assumption)))) | (refine AH.le_setTok ?_ (by first | assumption | exact (AH.blk_put_ne _ _ (by assumption)).trans (by assumption) | exact AH.none_put (by assumption) | exact AH.none_put (AH.none_put (by assumption)) | (simp only [AH.blk_setTok, AH.tok_put] at *; first | assumption | exact AH.none_put (by assumption)))) | (refine AH.le_putM ?_ (by first | assumption | exact (AH.mp_putM_ne _ _ (by assumption)).trans (by assumption) | (simp only [AH.mp_put, AH.mp_setTok] at *; assumption)))))
set_option maxHeartbeats 1000000 in
theorem s_law_model (nl : Bool) (l : List Op) (tl : Tail) (hl : l.length ≤ 1000) (h : AH) : ACalls Try.prog n_law_model [.sl nl l.length (ops l) tl] h fun r g => ∃ rb q, h.blk rb = none ∧ r = .ptr rb 0 ∧ g = h.put rb (rbk q (srS (runA s0 l))) := by
  refine ACalls.of hm cF_law_model (by simp [g_law_model]) fun hw => ?_
  simp only [F_law_model, g_law_model, go_sem, reduceIte, Nat.reduceEqDiff, Nat.reduceAdd, Nat.reduceMul, Nat.reduceSub, reduceCtorEq, Nat.reduceLeDiff, Nat.reduceLT, Int.reduceLT, Int.reduceLE, Int.reduceToNat, Int.reduceAdd, Int.reduceSub, Int.reduceNeg, Int.reduceMul, Int.reduceEq, ← Bool.decide_and, ← Bool.decide_or, ↓tq_n, ↓tq_e, ↓tq_r, ↓bq_n, ↓bq_e, ↓bq_r, ↓rq_n, ↓rq_r, ↓rq_e]
  refine CallS.mk (s_ref_New _) fun r H' hr => ?_
  obtain ⟨rb, k1, rfl, rfl⟩ := hr
  have h00 : srS (runA s0 (l.take 0)) = s0 := sr0 _
  simp only [F_law_model, g_law_model, go_sem, reduceIte, Nat.reduceEqDiff, Nat.reduceAdd, Nat.reduceMul, Nat.reduceSub, reduceCtorEq, Nat.reduceLeDiff, Nat.reduceLT, Int.reduceLT, Int.reduceLE, Int.reduceToNat, Int.reduceAdd, Int.reduceSub, Int.reduceNeg, Int.reduceMul, Int.reduceEq, ← Bool.decide_and, ← Bool.decide_or, ↓tq_n, ↓tq_e, ↓tq_r, ↓bq_n, ↓bq_e, ↓bq_r, ↓rq_n, ↓rq_r, ↓rq_e]
  refine awp_loop (α := Nat × RT) (fun p => [(0, .sl nl l.length (ops l) tl), (3, .ptr rb 0), (4, I p.1)]) (fun p => h.put rb (rbk p.2 (srS (runA s0 (l.take p.1))))) (fun p => p.1 ≤ l.length) (fun p => l.length - p.1) (0, (true, .full, true, .full)) (Nat.zero_le _) (by simp only [h00]; exact (GStep.forget (by repeat' first | exact EnvLe.nil _ | refine EnvLe.cons (AV.le.of_eq rfl) ?_ | refine EnvLe.cons (AV.le.undef _) ?_ | refine EnvLe.cons AV.le.unk ?_) (by repeat' first | exact AH.le.refl _ | assumption | (refine AH.le_put ?_ (by first | assumption | exact (AH.blk_put_ne _ _ (by assumption)).trans (by assumption) | exact AH.none_put (by assumption) | exact AH.none_put (AH.none_put (by assumption)) | (simp only [AH.blk_setTok, AH.tok_put] at *; first | assumption | exact AH.none_put (by assumption)))) | (refine AH.le_setTok ?_ (by first | assumption | exact (AH.blk_put_ne _ _ (by assumption)).trans (by assumption) | exact AH.none_put (by assumption) | exact AH.none_put (AH.none_put (by assumption)) | (simp only [AH.blk_setTok, AH.tok_put] at *; first | assumption | exact AH.none_put (by assumption)))) | (refine AH.le_putM ?_ (by first | assumption | exact (AH.mp_putM_ne _ _ (by assumption)).trans (by assumption) | (simp only [AH.mp_put, AH.mp_setTok] at *; assumption)))))) fun p hp => .of_vg hm ?_
  obtain ⟨i, q⟩ := p
  simp only at hp ⊢
  by_cases h3 : i < l.length
  case neg =>
    have h3 : i = l.length := by omega
    subst h3
    rw [List.take_length]
    simp only [F_law_model, g_law_model, go_sem, reduceIte, Nat.reduceEqDiff, Nat.reduceAdd, Nat.reduceMul, Nat.reduceSub, reduceCtorEq, Nat.reduceLeDiff, Nat.reduceLT, Int.reduceLT, Int.reduceLE, Int.reduceToNat, Int.reduceAdd, Int.reduceSub, Int.reduceNeg, Int.reduceMul, Int.reduceEq, ← Bool.decide_and, ← Bool.decide_or, ↓tq_n, ↓tq_e, ↓tq_r, ↓bq_n, ↓bq_e, ↓bq_r, ↓rq_n, ↓rq_r, ↓rq_e]
    exact ⟨_, _, .refl _ _, rb, q, k1, rfl, rfl⟩
  have hc : (i : Int) < (l.length : Int) := by omega
  have hok := runA_ok (l.take i) ok0
  have hrt := runA_take s0 h3
  obtain ⟨s, hs⟩ : ∃ s, s = runA s0 (l.take i) := ⟨_, rfl⟩
  obtain ⟨o, ho⟩ : ∃ o, o = l.getD i dO := ⟨_, rfl⟩
  have hod := ops_drop h3
  rw [← hs] at hok hrt ⊢
  rw [← ho] at hrt hod
  have hsm := do_sim hok o
  have hfw : Few (srS s) := ⟨by unfold srS; simp only [srtD_len]; exact hok.few.1, by unfold srS; simp only [srtM_len]; exact hok.few.2⟩
  simp only [hc, hod, F_law_model, g_law_model, go_sem, reduceIte, Nat.reduceEqDiff, Nat.reduceAdd, Nat.reduceMul, Nat.reduceSub, reduceCtorEq, Nat.reduceLeDiff, Nat.reduceLT, Int.reduceLT, Int.reduceLE, Int.reduceToNat, Int.reduceAdd, Int.reduceSub, Int.reduceNeg, Int.reduceMul, Int.reduceEq, ← Bool.decide_and, ← Bool.decide_or, ↓tq_n, ↓tq_e, ↓tq_r, ↓bq_n, ↓bq_e, ↓bq_r, ↓rq_n, ↓rq_r, ↓rq_e]
  refine CallS.mk (r_law_refer rb q (srS s) o hfw _ (AH.blk_put _ _ _)) fun r H' hr => ?_
  obtain ⟨rfl, q', rfl⟩ := hr
  simp only [F_law_model, g_law_model, go_sem, reduceIte, Nat.reduceEqDiff, Nat.reduceAdd, Nat.reduceMul, Nat.reduceSub, reduceCtorEq, Nat.reduceLeDiff, Nat.reduceLT, Int.reduceLT, Int.reduceLE, Int.reduceToNat, Int.reduceAdd, Int.reduceSub, Int.reduceNeg, Int.reduceMul, Int.reduceEq, ← Bool.decide_and, ← Bool.decide_or, ↓tq_n, ↓tq_e, ↓tq_r, ↓bq_n, ↓bq_e, ↓bq_r, ↓rq_n, ↓rq_r, ↓rq_e]
  refine ⟨by rw [inR64]; omega, (i + 1, q'), by simp only; omega, by simp only; omega, ?_⟩
  simp only [hrt]
  rw [hsm]
  exact (GStep.forget (by repeat' first | exact EnvLe.nil _ | refine EnvLe.cons (AV.le.of_eq rfl) ?_ | refine EnvLe.cons (AV.le.undef _) ?_ | refine EnvLe.cons AV.le.unk ?_) (by repeat' first | exact AH.le.refl _ | assumption | (refine AH.le_put ?_ (by first | assumption | exact (AH.blk_put_ne _ _ (by assumption)).trans (by assumption) | exact AH.none_put (by assumption) | exact AH.none_put (AH.none_put (by assumption)) | (simp only [AH.blk_setTok, AH.tok_put] at *; first | assumption | exact AH.none_put (by assumption)))) | (refine AH.le_setTok ?_ (by first | assumption | exact (AH.blk_put_ne _ _ (by assumption)).trans (by assumption) | exact AH.none_put (by assumption) | exact AH.none_put (AH.none_put (by assumption)) | (simp only [AH.blk_setTok, AH.tok_put] at *; first | assumption | exact AH.none_put (by assumption)))) | (refine AH.le_putM ?_ (by first | assumption | exact (AH.mp_putM_ne _ _ (by assumption)).trans (by assumption) | (simp only [AH.mp_put, AH.mp_setTok] at *; assumption)))))
theorem r_law_same (lb b1 b2 rb : Nat) (q : RT) (s t : St) (ok : OKs s) (h : AH) (k : Led h lb b1 b2 s) (hb : h.blk rb = some (rbk q t)) (hft : Few t) : RCall Try.prog n_law_same [.ptr lb 0, .ptr rb 0] h (.bool (decide (srS s = t))) := by
  refine RCall.of hm cF_law_same (by simp [g_law_same]) fun hw h' hl => ?_
  have k := k.mono hl
  have hb := hl.1 _ _ hb
  simp only [F_law_same, g_law_same, go_sem, reduceIte, Nat.reduceEqDiff, Nat.reduceAdd, Nat.reduceMul, Nat.reduceSub, reduceCtorEq, Nat.reduceLeDiff, Nat.reduceLT, Int.reduceLT, Int.reduceLE, Int.reduceToNat, Int.reduceAdd, Int.reduceSub, Int.reduceNeg, Int.reduceMul, Int.reduceEq, ← Bool.decide_and, ← Bool.decide_or, ↓tq_n, ↓tq_e, ↓tq_r, ↓bq_n, ↓bq_e, ↓bq_r, ↓rq_n, ↓rq_r, ↓rq_e]
  refine CallG.mk (r_decision_Ledger_Made lb b1 b2 s ok _ k) ?_
  simp only [F_law_same, g_law_same, go_sem, reduceIte, Nat.reduceEqDiff, Nat.reduceAdd, Nat.reduceMul, Nat.reduceSub, reduceCtorEq, Nat.reduceLeDiff, Nat.reduceLT, Int.reduceLT, Int.reduceLE, Int.reduceToNat, Int.reduceAdd, Int.reduceSub, Int.reduceNeg, Int.reduceMul, Int.reduceEq, ← Bool.decide_and, ← Bool.decide_or, ↓tq_n, ↓tq_e, ↓tq_r, ↓bq_n, ↓bq_e, ↓bq_r, ↓rq_n, ↓rq_r, ↓rq_e]
  refine CallG.mk (r_ref_Ledger_Made rb q t _ hb) ?_
  simp only [lsD, F_law_same, g_law_same, go_sem, reduceIte, Nat.reduceEqDiff, Nat.reduceAdd, Nat.reduceMul, Nat.reduceSub, reduceCtorEq, Nat.reduceLeDiff, Nat.reduceLT, Int.reduceLT, Int.reduceLE, Int.reduceToNat, Int.reduceAdd, Int.reduceSub, Int.reduceNeg, Int.reduceMul, Int.reduceEq, ← Bool.decide_and, ← Bool.decide_or, ↓tq_n, ↓tq_e, ↓tq_r, ↓bq_n, ↓bq_e, ↓bq_r, ↓rq_n, ↓rq_r, ↓rq_e]
  refine CallG.mk (r_base_Decisions _ _ _ _ _ _ _) ?_
  by_cases c1 : srtD s.1 = t.1
  case neg =>
    rw [decide_eq_false c1]
    simp only [F_law_same, g_law_same, go_sem, reduceIte, Nat.reduceEqDiff, Nat.reduceAdd, Nat.reduceMul, Nat.reduceSub, reduceCtorEq, Nat.reduceLeDiff, Nat.reduceLT, Int.reduceLT, Int.reduceLE, Int.reduceToNat, Int.reduceAdd, Int.reduceSub, Int.reduceNeg, Int.reduceMul, Int.reduceEq, ← Bool.decide_and, ← Bool.decide_or, ↓tq_n, ↓tq_e, ↓tq_r, ↓bq_n, ↓bq_e, ↓bq_r, ↓rq_n, ↓rq_r, ↓rq_e]
    exact ret_ok (by rw [decide_eq_false fun hh => c1 (congrArg Prod.fst hh)])
  rw [decide_eq_true c1]
  simp only [F_law_same, g_law_same, go_sem, reduceIte, Nat.reduceEqDiff, Nat.reduceAdd, Nat.reduceMul, Nat.reduceSub, reduceCtorEq, Nat.reduceLeDiff, Nat.reduceLT, Int.reduceLT, Int.reduceLE, Int.reduceToNat, Int.reduceAdd, Int.reduceSub, Int.reduceNeg, Int.reduceMul, Int.reduceEq, ← Bool.decide_and, ← Bool.decide_or, ↓tq_n, ↓tq_e, ↓tq_r, ↓bq_n, ↓bq_e, ↓bq_r, ↓rq_n, ↓rq_r, ↓rq_e]
  refine CallG.mk (r_decision_Ledger_Withdrawn lb b1 b2 s ok _ k) ?_
  simp only [F_law_same, g_law_same, go_sem, reduceIte, Nat.reduceEqDiff, Nat.reduceAdd, Nat.reduceMul, Nat.reduceSub, reduceCtorEq, Nat.reduceLeDiff, Nat.reduceLT, Int.reduceLT, Int.reduceLE, Int.reduceToNat, Int.reduceAdd, Int.reduceSub, Int.reduceNeg, Int.reduceMul, Int.reduceEq, ← Bool.decide_and, ← Bool.decide_or, ↓tq_n, ↓tq_e, ↓tq_r, ↓bq_n, ↓bq_e, ↓bq_r, ↓rq_n, ↓rq_r, ↓rq_e]
  refine CallG.mk (r_ref_Ledger_Withdrawn rb q t _ hb) ?_
  simp only [lsM, F_law_same, g_law_same, go_sem, reduceIte, Nat.reduceEqDiff, Nat.reduceAdd, Nat.reduceMul, Nat.reduceSub, reduceCtorEq, Nat.reduceLeDiff, Nat.reduceLT, Int.reduceLT, Int.reduceLE, Int.reduceToNat, Int.reduceAdd, Int.reduceSub, Int.reduceNeg, Int.reduceMul, Int.reduceEq, ← Bool.decide_and, ← Bool.decide_or, ↓tq_n, ↓tq_e, ↓tq_r, ↓bq_n, ↓bq_e, ↓bq_r, ↓rq_n, ↓rq_r, ↓rq_e]
  refine CallG.mk (r_base_Marks _ _ _ _ _ _ _) ?_
  by_cases c2 : srtM s.2 = t.2
  case neg =>
    rw [decide_eq_false c2]
    simp only [F_law_same, g_law_same, go_sem, reduceIte, Nat.reduceEqDiff, Nat.reduceAdd, Nat.reduceMul, Nat.reduceSub, reduceCtorEq, Nat.reduceLeDiff, Nat.reduceLT, Int.reduceLT, Int.reduceLE, Int.reduceToNat, Int.reduceAdd, Int.reduceSub, Int.reduceNeg, Int.reduceMul, Int.reduceEq, ← Bool.decide_and, ← Bool.decide_or, ↓tq_n, ↓tq_e, ↓tq_r, ↓bq_n, ↓bq_e, ↓bq_r, ↓rq_n, ↓rq_r, ↓rq_e]
    exact ret_ok (by rw [decide_eq_false fun hh => c2 (congrArg Prod.snd hh)])
  rw [decide_eq_true c2]
  have ht : srS s = t := Prod.ext c1 c2
  have hrs := rsL_sr s
  rw [ht] at hrs
  simp only [F_law_same, g_law_same, go_sem, reduceIte, Nat.reduceEqDiff, Nat.reduceAdd, Nat.reduceMul, Nat.reduceSub, reduceCtorEq, Nat.reduceLeDiff, Nat.reduceLT, Int.reduceLT, Int.reduceLE, Int.reduceToNat, Int.reduceAdd, Int.reduceSub, Int.reduceNeg, Int.reduceMul, Int.reduceEq, ← Bool.decide_and, ← Bool.decide_or, ↓tq_n, ↓tq_e, ↓tq_r, ↓bq_n, ↓bq_e, ↓bq_r, ↓rq_n, ↓rq_r, ↓rq_e]
  refine CallG.mk (r_decision_Ledger_Standing lb b1 b2 s ok _ k) ?_
  simp only [F_law_same, g_law_same, go_sem, reduceIte, Nat.reduceEqDiff, Nat.reduceAdd, Nat.reduceMul, Nat.reduceSub, reduceCtorEq, Nat.reduceLeDiff, Nat.reduceLT, Int.reduceLT, Int.reduceLE, Int.reduceToNat, Int.reduceAdd, Int.reduceSub, Int.reduceNeg, Int.reduceMul, Int.reduceEq, ← Bool.decide_and, ← Bool.decide_or, ↓tq_n, ↓tq_e, ↓tq_r, ↓bq_n, ↓bq_e, ↓bq_r, ↓rq_n, ↓rq_r, ↓rq_e]
  refine CallG.mk (r_ref_Ledger_Standing rb q t hft _ hb) ?_
  simp only [stV, F_law_same, g_law_same, go_sem, reduceIte, Nat.reduceEqDiff, Nat.reduceAdd, Nat.reduceMul, Nat.reduceSub, reduceCtorEq, Nat.reduceLeDiff, Nat.reduceLT, Int.reduceLT, Int.reduceLE, Int.reduceToNat, Int.reduceAdd, Int.reduceSub, Int.reduceNeg, Int.reduceMul, Int.reduceEq, ← Bool.decide_and, ← Bool.decide_or, ↓tq_n, ↓tq_e, ↓tq_r, ↓bq_n, ↓bq_e, ↓bq_r, ↓rq_n, ↓rq_r, ↓rq_e]
  refine CallG.mk (r_base_Decisions _ (stL s) _ _ (rsL t) _ _) ?_
  rw [decide_eq_true hrs.symm]
  simp only [F_law_same, g_law_same, go_sem, reduceIte, Nat.reduceEqDiff, Nat.reduceAdd, Nat.reduceMul, Nat.reduceSub, reduceCtorEq, Nat.reduceLeDiff, Nat.reduceLT, Int.reduceLT, Int.reduceLE, Int.reduceToNat, Int.reduceAdd, Int.reduceSub, Int.reduceNeg, Int.reduceMul, Int.reduceEq, ← Bool.decide_and, ← Bool.decide_or, ↓tq_n, ↓tq_e, ↓tq_r, ↓bq_n, ↓bq_e, ↓bq_r, ↓rq_n, ↓rq_r, ↓rq_e]
  exact ret_ok (by rw [decide_eq_true ht])
theorem r_law_few (nl : Bool) (l : List Op) (tl : Tail) (h : AH) : RCall Try.prog n_law_few [.sl nl l.length (ops l) tl] h (.bool (decide (l.length ≤ 60))) := by
  refine RCall.of hm cF_law_few (by simp [g_law_few]) fun hw h' hl => ?_
  simp only [F_law_few, g_law_few, go_sem, reduceIte, Nat.reduceEqDiff, Nat.reduceAdd, Nat.reduceMul, Nat.reduceSub, reduceCtorEq, Nat.reduceLeDiff, Nat.reduceLT, Int.reduceLT, Int.reduceLE, Int.reduceToNat, Int.reduceAdd, Int.reduceSub, Int.reduceNeg, Int.reduceMul, Int.reduceEq, ← Bool.decide_and, ← Bool.decide_or, ↓tq_n, ↓tq_e, ↓tq_r, ↓bq_n, ↓bq_e, ↓bq_r, ↓rq_n, ↓rq_r, ↓rq_e]
  exact ret_ok (by congr 1; exact decide_eq_decide.2 (by omega))
end Go.Proofs.Ytcnmodnafnadlaa
