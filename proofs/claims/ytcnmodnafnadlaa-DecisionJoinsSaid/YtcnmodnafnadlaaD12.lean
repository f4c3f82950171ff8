/- The statement DecisionJoins as a call. No condition. -/
import Derived.Test.YtcnmodnafnadlaaZJ
namespace Go.Proofs.Ytcnmodnafnadlaa
open Go Go.Abs
set_option linter.unusedSimpArgs false
set_option linter.unusedVariables false
set_option maxRecDepth 20000

set_option maxHeartbeats 8000000 in
theorem r_law_DecisionJoins (n1 : Bool) (l : List Op) (u1 : Tail) (n2 : Bool) (m : List Op) (u2 : Tail) (h : AH) : RCall Try.prog n_law_DecisionJoins [.sl n1 l.length (ops l) u1, .sl n2 m.length (ops m) u2] h (.bool true) := by
  refine RCall.of hm cF_law_DecisionJoins (by simp [g_law_DecisionJoins]) fun hw h' hl => ?_
  simp only [F_law_DecisionJoins, g_law_DecisionJoins, go_sem, reduceIte, Nat.reduceEqDiff, Nat.reduceAdd, Nat.reduceMul, Nat.reduceSub, reduceCtorEq, Nat.reduceLeDiff, Nat.reduceLT, Int.reduceLT, Int.reduceLE, Int.reduceToNat, Int.reduceAdd, Int.reduceSub, Int.reduceNeg, Int.reduceMul, Int.reduceEq, ← Bool.decide_and, ← Bool.decide_or, ↓tq_n, ↓tq_e, ↓tq_r, ↓bq_n, ↓bq_e, ↓bq_r, ↓rq_n, ↓rq_r, ↓rq_e]
  refine CallG.mk (r_law_awake _) ?_
  simp only [F_law_DecisionJoins, g_law_DecisionJoins, go_sem, reduceIte, Nat.reduceEqDiff, Nat.reduceAdd, Nat.reduceMul, Nat.reduceSub, reduceCtorEq, Nat.reduceLeDiff, Nat.reduceLT, Int.reduceLT, Int.reduceLE, Int.reduceToNat, Int.reduceAdd, Int.reduceSub, Int.reduceNeg, Int.reduceMul, Int.reduceEq, ← Bool.decide_and, ← Bool.decide_or, ↓tq_n, ↓tq_e, ↓tq_r, ↓bq_n, ↓bq_e, ↓bq_r, ↓rq_n, ↓rq_r, ↓rq_e]
  refine CallG.mk (r_law_few n1 l u1 _) ?_
  by_cases hf : l.length ≤ 60
  case neg =>
    rw [decide_eq_false hf]
    simp only [F_law_DecisionJoins, g_law_DecisionJoins, go_sem, reduceIte, Nat.reduceEqDiff, Nat.reduceAdd, Nat.reduceMul, Nat.reduceSub, reduceCtorEq, Nat.reduceLeDiff, Nat.reduceLT, Int.reduceLT, Int.reduceLE, Int.reduceToNat, Int.reduceAdd, Int.reduceSub, Int.reduceNeg, Int.reduceMul, Int.reduceEq, ← Bool.decide_and, ← Bool.decide_or, ↓tq_n, ↓tq_e, ↓tq_r, ↓bq_n, ↓bq_e, ↓bq_r, ↓rq_n, ↓rq_r, ↓rq_e]
    refine CallG.mk (r_law_awake _) ?_
    simp only [F_law_DecisionJoins, g_law_DecisionJoins, go_sem, reduceIte, Nat.reduceEqDiff, Nat.reduceAdd, Nat.reduceMul, Nat.reduceSub, reduceCtorEq, Nat.reduceLeDiff, Nat.reduceLT, Int.reduceLT, Int.reduceLE, Int.reduceToNat, Int.reduceAdd, Int.reduceSub, Int.reduceNeg, Int.reduceMul, Int.reduceEq, ← Bool.decide_and, ← Bool.decide_or, ↓tq_n, ↓tq_e, ↓tq_r, ↓bq_n, ↓bq_e, ↓bq_r, ↓rq_n, ↓rq_r, ↓rq_e]
    exact ret_ok rfl
  rw [decide_eq_true hf]
  simp only [F_law_DecisionJoins, g_law_DecisionJoins, go_sem, reduceIte, Nat.reduceEqDiff, Nat.reduceAdd, Nat.reduceMul, Nat.reduceSub, reduceCtorEq, Nat.reduceLeDiff, Nat.reduceLT, Int.reduceLT, Int.reduceLE, Int.reduceToNat, Int.reduceAdd, Int.reduceSub, Int.reduceNeg, Int.reduceMul, Int.reduceEq, ← Bool.decide_and, ← Bool.decide_or, ↓tq_n, ↓tq_e, ↓tq_r, ↓bq_n, ↓bq_e, ↓bq_r, ↓rq_n, ↓rq_r, ↓rq_e]
  refine CallG.mk (r_law_few n2 m u2 _) ?_
  by_cases hf2 : m.length ≤ 60
  case neg =>
    rw [decide_eq_false hf2]
    simp only [F_law_DecisionJoins, g_law_DecisionJoins, go_sem, reduceIte, Nat.reduceEqDiff, Nat.reduceAdd, Nat.reduceMul, Nat.reduceSub, reduceCtorEq, Nat.reduceLeDiff, Nat.reduceLT, Int.reduceLT, Int.reduceLE, Int.reduceToNat, Int.reduceAdd, Int.reduceSub, Int.reduceNeg, Int.reduceMul, Int.reduceEq, ← Bool.decide_and, ← Bool.decide_or, ↓tq_n, ↓tq_e, ↓tq_r, ↓bq_n, ↓bq_e, ↓bq_r, ↓rq_n, ↓rq_r, ↓rq_e]
    refine CallG.mk (r_law_awake _) ?_
    simp only [F_law_DecisionJoins, g_law_DecisionJoins, go_sem, reduceIte, Nat.reduceEqDiff, Nat.reduceAdd, Nat.reduceMul, Nat.reduceSub, reduceCtorEq, Nat.reduceLeDiff, Nat.reduceLT, Int.reduceLT, Int.reduceLE, Int.reduceToNat, Int.reduceAdd, Int.reduceSub, Int.reduceNeg, Int.reduceMul, Int.reduceEq, ← Bool.decide_and, ← Bool.decide_or, ↓tq_n, ↓tq_e, ↓tq_r, ↓bq_n, ↓bq_e, ↓bq_r, ↓rq_n, ↓rq_r, ↓rq_e]
    exact ret_ok rfl
  rw [decide_eq_true hf2]
  obtain ⟨s, hs⟩ : ∃ s, s = runA s0 l := ⟨_, rfl⟩
  obtain ⟨t, ht⟩ : ∃ t, t = runA s0 m := ⟨_, rfl⟩
  have oks : OKs s := hs ▸ runA_ok l ok0
  have okt : OKs t := ht ▸ runA_ok m ok0
  simp only [F_law_DecisionJoins, g_law_DecisionJoins, go_sem, reduceIte, Nat.reduceEqDiff, Nat.reduceAdd, Nat.reduceMul, Nat.reduceSub, reduceCtorEq, Nat.reduceLeDiff, Nat.reduceLT, Int.reduceLT, Int.reduceLE, Int.reduceToNat, Int.reduceAdd, Int.reduceSub, Int.reduceNeg, Int.reduceMul, Int.reduceEq, ← Bool.decide_and, ← Bool.decide_or, ↓tq_n, ↓tq_e, ↓tq_r, ↓bq_n, ↓bq_e, ↓bq_r, ↓rq_n, ↓rq_r, ↓rq_e]
  refine CallS.mk (s_law_made2 n1 l u1 (by omega) _) fun r H' hr => ?_
  obtain ⟨la, a1, a2, k1, k2, k3, k4, rfl, rfl⟩ := hr
  rw [← hs]
  have La := Led.newL_self h' la k4 s
  have hle := le_newL (AH.le.refl h') k1 k2 k3 s
  have fa := k1
  generalize newL h' la a1 a2 s = G1 at La hle ⊢
  clear k1 k2 k3 k4
  simp only [F_law_DecisionJoins, g_law_DecisionJoins, go_sem, reduceIte, Nat.reduceEqDiff, Nat.reduceAdd, Nat.reduceMul, Nat.reduceSub, reduceCtorEq, Nat.reduceLeDiff, Nat.reduceLT, Int.reduceLT, Int.reduceLE, Int.reduceToNat, Int.reduceAdd, Int.reduceSub, Int.reduceNeg, Int.reduceMul, Int.reduceEq, ← Bool.decide_and, ← Bool.decide_or, ↓tq_n, ↓tq_e, ↓tq_r, ↓bq_n, ↓bq_e, ↓bq_r, ↓rq_n, ↓rq_r, ↓rq_e]
  refine CallS.mk (s_law_made2 n2 m u2 (by omega) _) fun r H' hr => ?_
  obtain ⟨lb, b1, b2, k1, k2, k3, k4, rfl, rfl⟩ := hr
  rw [← ht]
  have nab := ne_of_blk La.blk k1
  replace La := La.newL_other nab k2 k3 t
  have Lb := Led.newL_self G1 lb k4 t
  have fb := le_none hle k1
  replace hle := le_newL hle fb k2 k3 t
  generalize newL G1 lb b1 b2 t = G2 at La Lb hle ⊢
  clear k1 k2 k3 k4
  simp only [F_law_DecisionJoins, g_law_DecisionJoins, go_sem, reduceIte, Nat.reduceEqDiff, Nat.reduceAdd, Nat.reduceMul, Nat.reduceSub, reduceCtorEq, Nat.reduceLeDiff, Nat.reduceLT, Int.reduceLT, Int.reduceLE, Int.reduceToNat, Int.reduceAdd, Int.reduceSub, Int.reduceNeg, Int.reduceMul, Int.reduceEq, ← Bool.decide_and, ← Bool.decide_or, ↓tq_n, ↓tq_e, ↓tq_r, ↓bq_n, ↓bq_e, ↓bq_r, ↓rq_n, ↓rq_r, ↓rq_e]
  refine CallS.mk (s_law_made2 n1 l u1 (by omega) _) fun r H' hr => ?_
  obtain ⟨lc, c1, c2, k1, k2, k3, k4, rfl, rfl⟩ := hr
  rw [← hs]
  have nac := ne_of_blk La.blk k1
  have nbc := ne_of_blk Lb.blk k1
  replace La := La.newL_other nac k2 k3 s
  replace Lb := Lb.newL_other nbc k2 k3 s
  have Lc := Led.newL_self G2 lc k4 s
  have fc := le_none hle k1
  replace hle := le_newL hle fc k2 k3 s
  generalize newL G2 lc c1 c2 s = G3 at La Lb Lc hle ⊢
  clear k1 k2 k3 k4
  simp only [F_law_DecisionJoins, g_law_DecisionJoins, go_sem, reduceIte, Nat.reduceEqDiff, Nat.reduceAdd, Nat.reduceMul, Nat.reduceSub, reduceCtorEq, Nat.reduceLeDiff, Nat.reduceLT, Int.reduceLT, Int.reduceLE, Int.reduceToNat, Int.reduceAdd, Int.reduceSub, Int.reduceNeg, Int.reduceMul, Int.reduceEq, ← Bool.decide_and, ← Bool.decide_or, ↓tq_n, ↓tq_e, ↓tq_r, ↓bq_n, ↓bq_e, ↓bq_r, ↓rq_n, ↓rq_r, ↓rq_e]
  refine CallS.mk (s_law_made2 n2 m u2 (by omega) _) fun r H' hr => ?_
  obtain ⟨ld, d1, d2, k1, k2, k3, k4, rfl, rfl⟩ := hr
  rw [← ht]
  have nad := ne_of_blk La.blk k1
  have nbd := ne_of_blk Lb.blk k1
  have ncd := ne_of_blk Lc.blk k1
  replace La := La.newL_other nad k2 k3 t
  replace Lb := Lb.newL_other nbd k2 k3 t
  replace Lc := Lc.newL_other ncd k2 k3 t
  have Ld := Led.newL_self G3 ld k4 t
  have fd := le_none hle k1
  replace hle := le_newL hle fd k2 k3 t
  generalize newL G3 ld d1 d2 t = G4 at La Lb Lc Ld hle ⊢
  clear k1 k2 k3 k4
  simp only [F_law_DecisionJoins, g_law_DecisionJoins, go_sem, reduceIte, Nat.reduceEqDiff, Nat.reduceAdd, Nat.reduceMul, Nat.reduceSub, reduceCtorEq, Nat.reduceLeDiff, Nat.reduceLT, Int.reduceLT, Int.reduceLE, Int.reduceToNat, Int.reduceAdd, Int.reduceSub, Int.reduceNeg, Int.reduceMul, Int.reduceEq, ← Bool.decide_and, ← Bool.decide_or, ↓tq_n, ↓tq_e, ↓tq_r, ↓bq_n, ↓bq_e, ↓bq_r, ↓rq_n, ↓rq_r, ↓rq_e]
  refine CallS.mk (s_law_model n1 l u1 (by omega) _) fun r H' hr => ?_
  obtain ⟨rw1, q, k1, rfl, rfl⟩ := hr
  rw [← hs]
  have nra := (ne_of_blk La.blk k1).symm
  have nrb := (ne_of_blk Lb.blk k1).symm
  have nrc := (ne_of_blk Lc.blk k1).symm
  have nrd := (ne_of_blk Ld.blk k1).symm
  replace La := La.put' nra (rbk q (srS s))
  replace Lb := Lb.put' nrb (rbk q (srS s))
  replace Lc := Lc.put' nrc (rbk q (srS s))
  replace Ld := Ld.put' nrd (rbk q (srS s))
  have fw := le_none hle k1
  replace hle := AH.le_put (cs := rbk q (srS s)) hle fw
  have Rw := AH.blk_put G4 rw1 (rbk q (srS s))
  generalize G4.put rw1 (rbk q (srS s)) = G5 at La Lb Lc Ld Rw hle ⊢
  clear k1
  simp only [F_law_DecisionJoins, g_law_DecisionJoins, go_sem, reduceIte, Nat.reduceEqDiff, Nat.reduceAdd, Nat.reduceMul, Nat.reduceSub, reduceCtorEq, Nat.reduceLeDiff, Nat.reduceLT, Int.reduceLT, Int.reduceLE, Int.reduceToNat, Int.reduceAdd, Int.reduceSub, Int.reduceNeg, Int.reduceMul, Int.reduceEq, ← Bool.decide_and, ← Bool.decide_or, ↓tq_n, ↓tq_e, ↓tq_r, ↓bq_n, ↓bq_e, ↓bq_r, ↓rq_n, ↓rq_r, ↓rq_e]
  refine CallS.mk (s_decision_Ledger_Join la a1 a2 lb b1 b2 s t oks okt _ La Lb) fun r H' hr => ?_
  obtain ⟨rfl, j1, j2⟩ := hr
  by_cases hj : jn s t = 0
  case neg =>
    obtain rfl := j1 hj
    have hjc : jn t s = jn s t := (jn_comm oks okt).symm
    simp only [F_law_DecisionJoins, g_law_DecisionJoins, go_sem, reduceIte, Nat.reduceEqDiff, Nat.reduceAdd, Nat.reduceMul, Nat.reduceSub, reduceCtorEq, Nat.reduceLeDiff, Nat.reduceLT, Int.reduceLT, Int.reduceLE, Int.reduceToNat, Int.reduceAdd, Int.reduceSub, Int.reduceNeg, Int.reduceMul, Int.reduceEq, ← Bool.decide_and, ← Bool.decide_or, ↓tq_n, ↓tq_e, ↓tq_r, ↓bq_n, ↓bq_e, ↓bq_r, ↓rq_n, ↓rq_r, ↓rq_e]
    refine CallS.mk (s_law_model n2 m u2 (by omega) _) fun r H' hr => ?_
    obtain ⟨rm, q2, k1, rfl, rfl⟩ := hr
    rw [← ht]
    have nma := (ne_of_blk La.blk k1).symm
    have nmb := (ne_of_blk Lb.blk k1).symm
    have nmc := (ne_of_blk Lc.blk k1).symm
    have nmd := (ne_of_blk Ld.blk k1).symm
    have nmw := (ne_of_blk Rw k1).symm
    replace La := La.put' nma (rbk q2 (srS t))
    replace Lb := Lb.put' nmb (rbk q2 (srS t))
    replace Lc := Lc.put' nmc (rbk q2 (srS t))
    replace Ld := Ld.put' nmd (rbk q2 (srS t))
    replace Rw := (AH.blk_put_ne _ (rbk q2 (srS t)) (Ne.symm nmw)).trans Rw
    replace hle := AH.le_put (cs := rbk q2 (srS t)) hle (le_none hle k1)
    have Rm := AH.blk_put H' rm (rbk q2 (srS t))
    generalize H'.put rm (rbk q2 (srS t)) = G7 at La Lb Lc Ld Rw Rm hle ⊢
    clear k1
    simp only [F_law_DecisionJoins, g_law_DecisionJoins, go_sem, reduceIte, Nat.reduceEqDiff, Nat.reduceAdd, Nat.reduceMul, Nat.reduceSub, reduceCtorEq, Nat.reduceLeDiff, Nat.reduceLT, Int.reduceLT, Int.reduceLE, Int.reduceToNat, Int.reduceAdd, Int.reduceSub, Int.reduceNeg, Int.reduceMul, Int.reduceEq, ← Bool.decide_and, ← Bool.decide_or, ↓tq_n, ↓tq_e, ↓tq_r, ↓bq_n, ↓bq_e, ↓bq_r, ↓rq_n, ↓rq_r, ↓rq_e]
    refine CallS.mk (s_ref_Ledger_Join rw1 rm q q2 s t oks okt _ Rw Rm) fun r H' hr => ?_
    obtain ⟨rfl, i1, _⟩ := hr
    obtain rfl := i1 hj
    generalize jn s t = e at hj hjc j1 j2 i1 ⊢
    simp only [hj, F_law_DecisionJoins, g_law_DecisionJoins, go_sem, reduceIte, Nat.reduceEqDiff, Nat.reduceAdd, Nat.reduceMul, Nat.reduceSub, reduceCtorEq, Nat.reduceLeDiff, Nat.reduceLT, Int.reduceLT, Int.reduceLE, Int.reduceToNat, Int.reduceAdd, Int.reduceSub, Int.reduceNeg, Int.reduceMul, Int.reduceEq, ← Bool.decide_and, ← Bool.decide_or, ↓tq_n, ↓tq_e, ↓tq_r, ↓bq_n, ↓bq_e, ↓bq_r, ↓rq_n, ↓rq_r, ↓rq_e]
    refine CallG.mk (r_law_same la a1 a2 rw1 q s (srS s) oks _ La Rw (few_sr oks)) ?_
    rw [decide_eq_true rfl]
    simp only [hj, F_law_DecisionJoins, g_law_DecisionJoins, go_sem, reduceIte, Nat.reduceEqDiff, Nat.reduceAdd, Nat.reduceMul, Nat.reduceSub, reduceCtorEq, Nat.reduceLeDiff, Nat.reduceLT, Int.reduceLT, Int.reduceLE, Int.reduceToNat, Int.reduceAdd, Int.reduceSub, Int.reduceNeg, Int.reduceMul, Int.reduceEq, ← Bool.decide_and, ← Bool.decide_or, ↓tq_n, ↓tq_e, ↓tq_r, ↓bq_n, ↓bq_e, ↓bq_r, ↓rq_n, ↓rq_r, ↓rq_e]
    refine CallG.mk (r_decision_Ledger_Same lb b1 b2 ld d1 d2 t t okt okt _ Lb Ld) ?_
    rw [decide_eq_true rfl]
    simp only [hj, F_law_DecisionJoins, g_law_DecisionJoins, go_sem, reduceIte, Nat.reduceEqDiff, Nat.reduceAdd, Nat.reduceMul, Nat.reduceSub, reduceCtorEq, Nat.reduceLeDiff, Nat.reduceLT, Int.reduceLT, Int.reduceLE, Int.reduceToNat, Int.reduceAdd, Int.reduceSub, Int.reduceNeg, Int.reduceMul, Int.reduceEq, ← Bool.decide_and, ← Bool.decide_or, ↓tq_n, ↓tq_e, ↓tq_r, ↓bq_n, ↓bq_e, ↓bq_r, ↓rq_n, ↓rq_r, ↓rq_e]
    refine CallS.mk (s_decision_Ledger_Join ld d1 d2 lc c1 c2 t s okt oks _ Ld Lc) fun r H' hr => ?_
    rw [hjc] at hr
    obtain ⟨rfl, i1, _⟩ := hr
    obtain rfl := i1 hj
    simp only [hj, F_law_DecisionJoins, g_law_DecisionJoins, go_sem, reduceIte, Nat.reduceEqDiff, Nat.reduceAdd, Nat.reduceMul, Nat.reduceSub, reduceCtorEq, Nat.reduceLeDiff, Nat.reduceLT, Int.reduceLT, Int.reduceLE, Int.reduceToNat, Int.reduceAdd, Int.reduceSub, Int.reduceNeg, Int.reduceMul, Int.reduceEq, ← Bool.decide_and, ← Bool.decide_or, ↓tq_n, ↓tq_e, ↓tq_r, ↓bq_n, ↓bq_e, ↓bq_r, ↓rq_n, ↓rq_r, ↓rq_e]
    refine CallG.mk (r_decision_Ledger_Same la a1 a2 lc c1 c2 s s oks oks _ La Lc) ?_
    rw [decide_eq_true rfl]
    simp only [F_law_DecisionJoins, g_law_DecisionJoins, go_sem, reduceIte, Nat.reduceEqDiff, Nat.reduceAdd, Nat.reduceMul, Nat.reduceSub, reduceCtorEq, Nat.reduceLeDiff, Nat.reduceLT, Int.reduceLT, Int.reduceLE, Int.reduceToNat, Int.reduceAdd, Int.reduceSub, Int.reduceNeg, Int.reduceMul, Int.reduceEq, ← Bool.decide_and, ← Bool.decide_or, ↓tq_n, ↓tq_e, ↓tq_r, ↓bq_n, ↓bq_e, ↓bq_r, ↓rq_n, ↓rq_r, ↓rq_e]
    refine CallG.mk (r_decision_Ledger_Same ld d1 d2 lb b1 b2 t t okt okt _ Ld Lb) ?_
    rw [decide_eq_true rfl]
    simp only [F_law_DecisionJoins, g_law_DecisionJoins, go_sem, reduceIte, Nat.reduceEqDiff, Nat.reduceAdd, Nat.reduceMul, Nat.reduceSub, reduceCtorEq, Nat.reduceLeDiff, Nat.reduceLT, Int.reduceLT, Int.reduceLE, Int.reduceToNat, Int.reduceAdd, Int.reduceSub, Int.reduceNeg, Int.reduceMul, Int.reduceEq, ← Bool.decide_and, ← Bool.decide_or, ↓tq_n, ↓tq_e, ↓tq_r, ↓bq_n, ↓bq_e, ↓bq_r, ↓rq_n, ↓rq_r, ↓rq_e]
    exact ret_le hle (AV.le.refl _)
  obtain ⟨u, p1, p2, Tu, f1, f2, f3, rfl⟩ := j2 hj
  have hjc : jn t s = 0 := (jn_comm oks okt).symm.trans hj
  rw [hj]
  have Tw := uni_tog oks okt hj
  replace La := Led.newL_self G5 la f3 u
  replace Lb := Lb.newL_other nab.symm f1 f2 u
  replace Lc := Lc.newL_other nac.symm f1 f2 u
  replace Ld := Ld.newL_other nad.symm f1 f2 u
  replace Rw := newL_blk (s := u) (lb := la) (b1 := p1) (b2 := p2) Rw nra
  replace hle := le_newL hle fa f1 f2 u
  generalize newL G5 la p1 p2 u = G6 at La Lb Lc Ld Rw hle ⊢
  clear j1 j2 f1 f2 f3
  simp only [F_law_DecisionJoins, g_law_DecisionJoins, go_sem, reduceIte, Nat.reduceEqDiff, Nat.reduceAdd, Nat.reduceMul, Nat.reduceSub, reduceCtorEq, Nat.reduceLeDiff, Nat.reduceLT, Int.reduceLT, Int.reduceLE, Int.reduceToNat, Int.reduceAdd, Int.reduceSub, Int.reduceNeg, Int.reduceMul, Int.reduceEq, ← Bool.decide_and, ← Bool.decide_or, ↓tq_n, ↓tq_e, ↓tq_r, ↓bq_n, ↓bq_e, ↓bq_r, ↓rq_n, ↓rq_r, ↓rq_e]
  refine CallS.mk (s_law_model n2 m u2 (by omega) _) fun r H' hr => ?_
  obtain ⟨rm, q2, k1, rfl, rfl⟩ := hr
  rw [← ht]
  have nma := (ne_of_blk La.blk k1).symm
  have nmb := (ne_of_blk Lb.blk k1).symm
  have nmc := (ne_of_blk Lc.blk k1).symm
  have nmd := (ne_of_blk Ld.blk k1).symm
  have nmw := (ne_of_blk Rw k1).symm
  replace La := La.put' nma (rbk q2 (srS t))
  replace Lb := Lb.put' nmb (rbk q2 (srS t))
  replace Lc := Lc.put' nmc (rbk q2 (srS t))
  replace Ld := Ld.put' nmd (rbk q2 (srS t))
  replace Rw := (AH.blk_put_ne _ (rbk q2 (srS t)) (Ne.symm nmw)).trans Rw
  replace hle := AH.le_put (cs := rbk q2 (srS t)) hle (le_none hle k1)
  have Rm := AH.blk_put G6 rm (rbk q2 (srS t))
  generalize G6.put rm (rbk q2 (srS t)) = G7 at La Lb Lc Ld Rw Rm hle ⊢
  clear k1
  simp only [F_law_DecisionJoins, g_law_DecisionJoins, go_sem, reduceIte, Nat.reduceEqDiff, Nat.reduceAdd, Nat.reduceMul, Nat.reduceSub, reduceCtorEq, Nat.reduceLeDiff, Nat.reduceLT, Int.reduceLT, Int.reduceLE, Int.reduceToNat, Int.reduceAdd, Int.reduceSub, Int.reduceNeg, Int.reduceMul, Int.reduceEq, ← Bool.decide_and, ← Bool.decide_or, ↓tq_n, ↓tq_e, ↓tq_r, ↓bq_n, ↓bq_e, ↓bq_r, ↓rq_n, ↓rq_r, ↓rq_e]
  refine CallS.mk (s_ref_Ledger_Join rw1 rm q q2 s t oks okt _ Rw Rm) fun r H' hr => ?_
  rw [hj] at hr
  obtain ⟨rfl, _, i2⟩ := hr
  obtain ⟨q3, rfl⟩ := i2 rfl
  replace La := La.put' nra (rbk q3 (srS (uni s t)))
  replace Lb := Lb.put' nrb (rbk q3 (srS (uni s t)))
  replace Lc := Lc.put' nrc (rbk q3 (srS (uni s t)))
  replace Ld := Ld.put' nrd (rbk q3 (srS (uni s t)))
  replace hle := AH.le_put (cs := rbk q3 (srS (uni s t))) hle fw
  replace Rw := AH.blk_put G7 rw1 (rbk q3 (srS (uni s t)))
  generalize G7.put rw1 (rbk q3 (srS (uni s t))) = G8 at La Lb Lc Ld Rw hle ⊢
  simp only [F_law_DecisionJoins, g_law_DecisionJoins, go_sem, reduceIte, Nat.reduceEqDiff, Nat.reduceAdd, Nat.reduceMul, Nat.reduceSub, reduceCtorEq, Nat.reduceLeDiff, Nat.reduceLT, Int.reduceLT, Int.reduceLE, Int.reduceToNat, Int.reduceAdd, Int.reduceSub, Int.reduceNeg, Int.reduceMul, Int.reduceEq, ← Bool.decide_and, ← Bool.decide_or, ↓tq_n, ↓tq_e, ↓tq_r, ↓bq_n, ↓bq_e, ↓bq_r, ↓rq_n, ↓rq_r, ↓rq_e]
  refine CallG.mk (r_law_same la p1 p2 rw1 q3 u (srS (uni s t)) Tu.ok _ La Rw (few_sr Tw.ok)) ?_
  rw [decide_eq_true (Tu.eq Tw)]
  simp only [F_law_DecisionJoins, g_law_DecisionJoins, go_sem, reduceIte, Nat.reduceEqDiff, Nat.reduceAdd, Nat.reduceMul, Nat.reduceSub, reduceCtorEq, Nat.reduceLeDiff, Nat.reduceLT, Int.reduceLT, Int.reduceLE, Int.reduceToNat, Int.reduceAdd, Int.reduceSub, Int.reduceNeg, Int.reduceMul, Int.reduceEq, ← Bool.decide_and, ← Bool.decide_or, ↓tq_n, ↓tq_e, ↓tq_r, ↓bq_n, ↓bq_e, ↓bq_r, ↓rq_n, ↓rq_r, ↓rq_e]
  refine CallG.mk (r_decision_Ledger_Same lb b1 b2 ld d1 d2 t t okt okt _ Lb Ld) ?_
  rw [decide_eq_true rfl]
  simp only [F_law_DecisionJoins, g_law_DecisionJoins, go_sem, reduceIte, Nat.reduceEqDiff, Nat.reduceAdd, Nat.reduceMul, Nat.reduceSub, reduceCtorEq, Nat.reduceLeDiff, Nat.reduceLT, Int.reduceLT, Int.reduceLE, Int.reduceToNat, Int.reduceAdd, Int.reduceSub, Int.reduceNeg, Int.reduceMul, Int.reduceEq, ← Bool.decide_and, ← Bool.decide_or, ↓tq_n, ↓tq_e, ↓tq_r, ↓bq_n, ↓bq_e, ↓bq_r, ↓rq_n, ↓rq_r, ↓rq_e]
  refine CallS.mk (s_decision_Ledger_Join ld d1 d2 lc c1 c2 t s okt oks _ Ld Lc) fun r H' hr => ?_
  rw [hjc] at hr
  obtain ⟨rfl, _, i2⟩ := hr
  obtain ⟨v, g1, g2, Tv, f1, f2, f3, rfl⟩ := i2 rfl
  replace La := La.newL_other nad f1 f2 v
  replace Lb := Lb.newL_other nbd f1 f2 v
  replace Ld := Led.newL_self G8 ld f3 v
  replace Rw := newL_blk (s := v) (lb := ld) (b1 := g1) (b2 := g2) Rw nrd
  replace hle := le_newL hle fd f1 f2 v
  generalize newL G8 ld g1 g2 v = G9 at La Lb Ld Rw hle ⊢
  clear i2 f1 f2 f3
  simp only [F_law_DecisionJoins, g_law_DecisionJoins, go_sem, reduceIte, Nat.reduceEqDiff, Nat.reduceAdd, Nat.reduceMul, Nat.reduceSub, reduceCtorEq, Nat.reduceLeDiff, Nat.reduceLT, Int.reduceLT, Int.reduceLE, Int.reduceToNat, Int.reduceAdd, Int.reduceSub, Int.reduceNeg, Int.reduceMul, Int.reduceEq, ← Bool.decide_and, ← Bool.decide_or, ↓tq_n, ↓tq_e, ↓tq_r, ↓bq_n, ↓bq_e, ↓bq_r, ↓rq_n, ↓rq_r, ↓rq_e]
  refine CallG.mk (r_decision_Ledger_Same la p1 p2 ld g1 g2 u v Tu.ok Tv.ok _ La Ld) ?_
  rw [decide_eq_true (Tu.eq Tv.comm)]
  have ju := jn_sub Tu.ok okt (fun d hd => (Tu.m1 d).2 (.inr hd)) (fun m hm => (Tu.m2 m).2 (.inr hm))
  simp only [F_law_DecisionJoins, g_law_DecisionJoins, go_sem, reduceIte, Nat.reduceEqDiff, Nat.reduceAdd, Nat.reduceMul, Nat.reduceSub, reduceCtorEq, Nat.reduceLeDiff, Nat.reduceLT, Int.reduceLT, Int.reduceLE, Int.reduceToNat, Int.reduceAdd, Int.reduceSub, Int.reduceNeg, Int.reduceMul, Int.reduceEq, ← Bool.decide_and, ← Bool.decide_or, ↓tq_n, ↓tq_e, ↓tq_r, ↓bq_n, ↓bq_e, ↓bq_r, ↓rq_n, ↓rq_r, ↓rq_e]
  refine CallS.mk (s_decision_Ledger_Join la p1 p2 lb b1 b2 u t Tu.ok okt _ La Lb) fun r H' hr => ?_
  rw [ju] at hr
  obtain ⟨rfl, _, i2⟩ := hr
  obtain ⟨x, x1, x2, Tx, f1, f2, f3, rfl⟩ := i2 rfl
  replace La := Led.newL_self G9 la f3 x
  replace Rw := newL_blk (s := x) (lb := la) (b1 := x1) (b2 := x2) Rw nra
  replace hle := le_newL hle fa f1 f2 x
  generalize newL G9 la x1 x2 x = G10 at La Rw hle ⊢
  clear i2 f1 f2 f3
  have jx := jn_sub Tx.ok Tx.ok (fun d hd => hd) (fun m hm => hm)
  simp only [F_law_DecisionJoins, g_law_DecisionJoins, go_sem, reduceIte, Nat.reduceEqDiff, Nat.reduceAdd, Nat.reduceMul, Nat.reduceSub, reduceCtorEq, Nat.reduceLeDiff, Nat.reduceLT, Int.reduceLT, Int.reduceLE, Int.reduceToNat, Int.reduceAdd, Int.reduceSub, Int.reduceNeg, Int.reduceMul, Int.reduceEq, ← Bool.decide_and, ← Bool.decide_or, ↓tq_n, ↓tq_e, ↓tq_r, ↓bq_n, ↓bq_e, ↓bq_r, ↓rq_n, ↓rq_r, ↓rq_e]
  refine CallS.mk (s_decision_Ledger_Join la x1 x2 la x1 x2 x x Tx.ok Tx.ok _ La La) fun r H' hr => ?_
  rw [jx] at hr
  obtain ⟨rfl, _, i2⟩ := hr
  obtain ⟨y, y1, y2, Ty, f1, f2, f3, rfl⟩ := i2 rfl
  replace La := Led.newL_self G10 la f3 y
  replace Rw := newL_blk (s := y) (lb := la) (b1 := y1) (b2 := y2) Rw nra
  replace hle := le_newL hle fa f1 f2 y
  generalize newL G10 la y1 y2 y = G11 at La Rw hle ⊢
  clear i2 f1 f2 f3
  have hyw : srS y = srS (uni s t) := sr_eq Ty.ok Tw.ok (fun d => by rw [Ty.m1, or_self, Tx.m1, Tu.m1, Tw.m1]; exact ⟨fun hh => hh.elim id .inr, .inl⟩) (fun d => by rw [Ty.m2, or_self, Tx.m2, Tu.m2, Tw.m2]; exact ⟨fun hh => hh.elim id .inr, .inl⟩)
  simp only [F_law_DecisionJoins, g_law_DecisionJoins, go_sem, reduceIte, Nat.reduceEqDiff, Nat.reduceAdd, Nat.reduceMul, Nat.reduceSub, reduceCtorEq, Nat.reduceLeDiff, Nat.reduceLT, Int.reduceLT, Int.reduceLE, Int.reduceToNat, Int.reduceAdd, Int.reduceSub, Int.reduceNeg, Int.reduceMul, Int.reduceEq, ← Bool.decide_and, ← Bool.decide_or, ↓tq_n, ↓tq_e, ↓tq_r, ↓bq_n, ↓bq_e, ↓bq_r, ↓rq_n, ↓rq_r, ↓rq_e]
  refine CallG.mk (r_law_same la y1 y2 rw1 q3 y (srS (uni s t)) Ty.ok _ La Rw (few_sr Tw.ok)) ?_
  rw [decide_eq_true hyw]
  simp only [F_law_DecisionJoins, g_law_DecisionJoins, go_sem, reduceIte, Nat.reduceEqDiff, Nat.reduceAdd, Nat.reduceMul, Nat.reduceSub, reduceCtorEq, Nat.reduceLeDiff, Nat.reduceLT, Int.reduceLT, Int.reduceLE, Int.reduceToNat, Int.reduceAdd, Int.reduceSub, Int.reduceNeg, Int.reduceMul, Int.reduceEq, ← Bool.decide_and, ← Bool.decide_or, ↓tq_n, ↓tq_e, ↓tq_r, ↓bq_n, ↓bq_e, ↓bq_r, ↓rq_n, ↓rq_r, ↓rq_e]
  exact ret_le hle (AV.le.refl _)
end Go.Proofs.Ytcnmodnafnadlaa
