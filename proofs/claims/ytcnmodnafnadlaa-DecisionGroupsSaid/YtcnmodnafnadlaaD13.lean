/- The statement DecisionGroups as a call. No condition. -/
import Derived.Test.YtcnmodnafnadlaaZJ
namespace Go.Proofs.Ytcnmodnafnadlaa
open Go Go.Abs
set_option linter.unusedSimpArgs false
set_option linter.unusedVariables false
set_option maxRecDepth 20000

set_option maxHeartbeats 8000000 in
theorem r_law_DecisionGroups (n0 : Bool) (k : List Op) (u0 : Tail) (n1 : Bool) (l : List Op) (u1 : Tail) (n2 : Bool) (m : List Op) (u2 : Tail) (h : AH) : RCall Try.prog n_law_DecisionGroups [.sl n0 k.length (ops k) u0, .sl n1 l.length (ops l) u1, .sl n2 m.length (ops m) u2] h (.bool true) := by
  refine RCall.of hm cF_law_DecisionGroups (by simp [g_law_DecisionGroups]) fun hw h' hl => ?_
  simp only [F_law_DecisionGroups, g_law_DecisionGroups, go_sem, reduceIte, Nat.reduceEqDiff, Nat.reduceAdd, Nat.reduceMul, Nat.reduceSub, reduceCtorEq, Nat.reduceLeDiff, Nat.reduceLT, Int.reduceLT, Int.reduceLE, Int.reduceToNat, Int.reduceAdd, Int.reduceSub, Int.reduceNeg, Int.reduceMul, Int.reduceEq, ← Bool.decide_and, ← Bool.decide_or, ↓tq_n, ↓tq_e, ↓tq_r, ↓bq_n, ↓bq_e, ↓bq_r, ↓rq_n, ↓rq_r, ↓rq_e]
  refine CallG.mk (r_law_awake _) ?_
  simp only [F_law_DecisionGroups, g_law_DecisionGroups, go_sem, reduceIte, Nat.reduceEqDiff, Nat.reduceAdd, Nat.reduceMul, Nat.reduceSub, reduceCtorEq, Nat.reduceLeDiff, Nat.reduceLT, Int.reduceLT, Int.reduceLE, Int.reduceToNat, Int.reduceAdd, Int.reduceSub, Int.reduceNeg, Int.reduceMul, Int.reduceEq, ← Bool.decide_and, ← Bool.decide_or, ↓tq_n, ↓tq_e, ↓tq_r, ↓bq_n, ↓bq_e, ↓bq_r, ↓rq_n, ↓rq_r, ↓rq_e]
  refine CallG.mk (r_law_few n0 k u0 _) ?_
  by_cases hf0 : k.length ≤ 60
  case neg =>
    rw [decide_eq_false hf0]
    simp only [F_law_DecisionGroups, g_law_DecisionGroups, go_sem, reduceIte, Nat.reduceEqDiff, Nat.reduceAdd, Nat.reduceMul, Nat.reduceSub, reduceCtorEq, Nat.reduceLeDiff, Nat.reduceLT, Int.reduceLT, Int.reduceLE, Int.reduceToNat, Int.reduceAdd, Int.reduceSub, Int.reduceNeg, Int.reduceMul, Int.reduceEq, ← Bool.decide_and, ← Bool.decide_or, ↓tq_n, ↓tq_e, ↓tq_r, ↓bq_n, ↓bq_e, ↓bq_r, ↓rq_n, ↓rq_r, ↓rq_e]
    refine CallG.mk (r_law_awake _) ?_
    simp only [F_law_DecisionGroups, g_law_DecisionGroups, go_sem, reduceIte, Nat.reduceEqDiff, Nat.reduceAdd, Nat.reduceMul, Nat.reduceSub, reduceCtorEq, Nat.reduceLeDiff, Nat.reduceLT, Int.reduceLT, Int.reduceLE, Int.reduceToNat, Int.reduceAdd, Int.reduceSub, Int.reduceNeg, Int.reduceMul, Int.reduceEq, ← Bool.decide_and, ← Bool.decide_or, ↓tq_n, ↓tq_e, ↓tq_r, ↓bq_n, ↓bq_e, ↓bq_r, ↓rq_n, ↓rq_r, ↓rq_e]
    exact ret_ok rfl
  rw [decide_eq_true hf0]
  simp only [F_law_DecisionGroups, g_law_DecisionGroups, go_sem, reduceIte, Nat.reduceEqDiff, Nat.reduceAdd, Nat.reduceMul, Nat.reduceSub, reduceCtorEq, Nat.reduceLeDiff, Nat.reduceLT, Int.reduceLT, Int.reduceLE, Int.reduceToNat, Int.reduceAdd, Int.reduceSub, Int.reduceNeg, Int.reduceMul, Int.reduceEq, ← Bool.decide_and, ← Bool.decide_or, ↓tq_n, ↓tq_e, ↓tq_r, ↓bq_n, ↓bq_e, ↓bq_r, ↓rq_n, ↓rq_r, ↓rq_e]
  refine CallG.mk (r_law_few n1 l u1 _) ?_
  by_cases hf1 : l.length ≤ 60
  case neg =>
    rw [decide_eq_false hf1]
    simp only [F_law_DecisionGroups, g_law_DecisionGroups, go_sem, reduceIte, Nat.reduceEqDiff, Nat.reduceAdd, Nat.reduceMul, Nat.reduceSub, reduceCtorEq, Nat.reduceLeDiff, Nat.reduceLT, Int.reduceLT, Int.reduceLE, Int.reduceToNat, Int.reduceAdd, Int.reduceSub, Int.reduceNeg, Int.reduceMul, Int.reduceEq, ← Bool.decide_and, ← Bool.decide_or, ↓tq_n, ↓tq_e, ↓tq_r, ↓bq_n, ↓bq_e, ↓bq_r, ↓rq_n, ↓rq_r, ↓rq_e]
    refine CallG.mk (r_law_awake _) ?_
    simp only [F_law_DecisionGroups, g_law_DecisionGroups, go_sem, reduceIte, Nat.reduceEqDiff, Nat.reduceAdd, Nat.reduceMul, Nat.reduceSub, reduceCtorEq, Nat.reduceLeDiff, Nat.reduceLT, Int.reduceLT, Int.reduceLE, Int.reduceToNat, Int.reduceAdd, Int.reduceSub, Int.reduceNeg, Int.reduceMul, Int.reduceEq, ← Bool.decide_and, ← Bool.decide_or, ↓tq_n, ↓tq_e, ↓tq_r, ↓bq_n, ↓bq_e, ↓bq_r, ↓rq_n, ↓rq_r, ↓rq_e]
    exact ret_ok rfl
  rw [decide_eq_true hf1]
  simp only [F_law_DecisionGroups, g_law_DecisionGroups, go_sem, reduceIte, Nat.reduceEqDiff, Nat.reduceAdd, Nat.reduceMul, Nat.reduceSub, reduceCtorEq, Nat.reduceLeDiff, Nat.reduceLT, Int.reduceLT, Int.reduceLE, Int.reduceToNat, Int.reduceAdd, Int.reduceSub, Int.reduceNeg, Int.reduceMul, Int.reduceEq, ← Bool.decide_and, ← Bool.decide_or, ↓tq_n, ↓tq_e, ↓tq_r, ↓bq_n, ↓bq_e, ↓bq_r, ↓rq_n, ↓rq_r, ↓rq_e]
  refine CallG.mk (r_law_few n2 m u2 _) ?_
  by_cases hf2 : m.length ≤ 60
  case neg =>
    rw [decide_eq_false hf2]
    simp only [F_law_DecisionGroups, g_law_DecisionGroups, go_sem, reduceIte, Nat.reduceEqDiff, Nat.reduceAdd, Nat.reduceMul, Nat.reduceSub, reduceCtorEq, Nat.reduceLeDiff, Nat.reduceLT, Int.reduceLT, Int.reduceLE, Int.reduceToNat, Int.reduceAdd, Int.reduceSub, Int.reduceNeg, Int.reduceMul, Int.reduceEq, ← Bool.decide_and, ← Bool.decide_or, ↓tq_n, ↓tq_e, ↓tq_r, ↓bq_n, ↓bq_e, ↓bq_r, ↓rq_n, ↓rq_r, ↓rq_e]
    refine CallG.mk (r_law_awake _) ?_
    simp only [F_law_DecisionGroups, g_law_DecisionGroups, go_sem, reduceIte, Nat.reduceEqDiff, Nat.reduceAdd, Nat.reduceMul, Nat.reduceSub, reduceCtorEq, Nat.reduceLeDiff, Nat.reduceLT, Int.reduceLT, Int.reduceLE, Int.reduceToNat, Int.reduceAdd, Int.reduceSub, Int.reduceNeg, Int.reduceMul, Int.reduceEq, ← Bool.decide_and, ← Bool.decide_or, ↓tq_n, ↓tq_e, ↓tq_r, ↓bq_n, ↓bq_e, ↓bq_r, ↓rq_n, ↓rq_r, ↓rq_e]
    exact ret_ok rfl
  rw [decide_eq_true hf2]
  obtain ⟨s, hs⟩ : ∃ s, s = runA s0 k := ⟨_, rfl⟩
  have oks : OKs s := hs ▸ runA_ok k ok0
  obtain ⟨t, ht⟩ : ∃ t, t = runA s0 l := ⟨_, rfl⟩
  have okt : OKs t := ht ▸ runA_ok l ok0
  obtain ⟨w, hww⟩ : ∃ w, w = runA s0 m := ⟨_, rfl⟩
  have okw : OKs w := hww ▸ runA_ok m ok0
  simp only [F_law_DecisionGroups, g_law_DecisionGroups, go_sem, reduceIte, Nat.reduceEqDiff, Nat.reduceAdd, Nat.reduceMul, Nat.reduceSub, reduceCtorEq, Nat.reduceLeDiff, Nat.reduceLT, Int.reduceLT, Int.reduceLE, Int.reduceToNat, Int.reduceAdd, Int.reduceSub, Int.reduceNeg, Int.reduceMul, Int.reduceEq, ← Bool.decide_and, ← Bool.decide_or, ↓tq_n, ↓tq_e, ↓tq_r, ↓bq_n, ↓bq_e, ↓bq_r, ↓rq_n, ↓rq_r, ↓rq_e]
  refine CallS.mk (s_law_made2 n0 k u0 (by omega) _) fun r H' hr => ?_
  obtain ⟨la, a1, a2, k1, k2, k3, k4, rfl, rfl⟩ := hr
  rw [← hs]
  have La := Led.newL_self h' la k4 s
  have fa := k1
  have hle := le_newL (AH.le.refl h') fa k2 k3 s
  generalize newL h' la a1 a2 s = G1 at La hle ⊢
  clear k1 k2 k3 k4
  simp only [F_law_DecisionGroups, g_law_DecisionGroups, go_sem, reduceIte, Nat.reduceEqDiff, Nat.reduceAdd, Nat.reduceMul, Nat.reduceSub, reduceCtorEq, Nat.reduceLeDiff, Nat.reduceLT, Int.reduceLT, Int.reduceLE, Int.reduceToNat, Int.reduceAdd, Int.reduceSub, Int.reduceNeg, Int.reduceMul, Int.reduceEq, ← Bool.decide_and, ← Bool.decide_or, ↓tq_n, ↓tq_e, ↓tq_r, ↓bq_n, ↓bq_e, ↓bq_r, ↓rq_n, ↓rq_r, ↓rq_e]
  refine CallS.mk (s_law_made2 n1 l u1 (by omega) _) fun r H' hr => ?_
  obtain ⟨lb, b1, b2, k1, k2, k3, k4, rfl, rfl⟩ := hr
  rw [← ht]
  have nab := ne_of_blk La.blk k1
  replace La := La.newL_other nab k2 k3 t
  have Lb := Led.newL_self G1 lb k4 t
  have fb := le_none hle k1
  replace hle := le_newL hle fb k2 k3 t
  generalize newL G1 lb b1 b2 t = G2 at La Lb hle ⊢
  clear k1 k2 k3 k4
  simp only [F_law_DecisionGroups, g_law_DecisionGroups, go_sem, reduceIte, Nat.reduceEqDiff, Nat.reduceAdd, Nat.reduceMul, Nat.reduceSub, reduceCtorEq, Nat.reduceLeDiff, Nat.reduceLT, Int.reduceLT, Int.reduceLE, Int.reduceToNat, Int.reduceAdd, Int.reduceSub, Int.reduceNeg, Int.reduceMul, Int.reduceEq, ← Bool.decide_and, ← Bool.decide_or, ↓tq_n, ↓tq_e, ↓tq_r, ↓bq_n, ↓bq_e, ↓bq_r, ↓rq_n, ↓rq_r, ↓rq_e]
  refine CallS.mk (s_law_made2 n2 m u2 (by omega) _) fun r H' hr => ?_
  obtain ⟨lc, c1, c2, k1, k2, k3, k4, rfl, rfl⟩ := hr
  rw [← hww]
  have nac := ne_of_blk La.blk k1
  replace La := La.newL_other nac k2 k3 w
  have nbc := ne_of_blk Lb.blk k1
  replace Lb := Lb.newL_other nbc k2 k3 w
  have Lc := Led.newL_self G2 lc k4 w
  have fc := le_none hle k1
  replace hle := le_newL hle fc k2 k3 w
  generalize newL G2 lc c1 c2 w = G3 at La Lb Lc hle ⊢
  clear k1 k2 k3 k4
  simp only [F_law_DecisionGroups, g_law_DecisionGroups, go_sem, reduceIte, Nat.reduceEqDiff, Nat.reduceAdd, Nat.reduceMul, Nat.reduceSub, reduceCtorEq, Nat.reduceLeDiff, Nat.reduceLT, Int.reduceLT, Int.reduceLE, Int.reduceToNat, Int.reduceAdd, Int.reduceSub, Int.reduceNeg, Int.reduceMul, Int.reduceEq, ← Bool.decide_and, ← Bool.decide_or, ↓tq_n, ↓tq_e, ↓tq_r, ↓bq_n, ↓bq_e, ↓bq_r, ↓rq_n, ↓rq_r, ↓rq_e]
  refine CallS.mk (s_LClone la a1 a2 s _ La) fun r H' hr => ?_
  obtain ⟨lx, x1, x2, k1, k2, k3, k4, rfl, rfl⟩ := hr
  have nax := ne_of_blk La.blk k1
  replace La := La.newL_other nax k2 k3 s
  have nbx := ne_of_blk Lb.blk k1
  replace Lb := Lb.newL_other nbx k2 k3 s
  have ncx := ne_of_blk Lc.blk k1
  replace Lc := Lc.newL_other ncx k2 k3 s
  have Lx := Led.newL_self G3 lx k4 s
  have fx := le_none hle k1
  replace hle := le_newL hle fx k2 k3 s
  generalize newL G3 lx x1 x2 s = G4 at La Lb Lc Lx hle ⊢
  clear k1 k2 k3 k4
  simp only [F_law_DecisionGroups, g_law_DecisionGroups, go_sem, reduceIte, Nat.reduceEqDiff, Nat.reduceAdd, Nat.reduceMul, Nat.reduceSub, reduceCtorEq, Nat.reduceLeDiff, Nat.reduceLT, Int.reduceLT, Int.reduceLE, Int.reduceToNat, Int.reduceAdd, Int.reduceSub, Int.reduceNeg, Int.reduceMul, Int.reduceEq, ← Bool.decide_and, ← Bool.decide_or, ↓tq_n, ↓tq_e, ↓tq_r, ↓bq_n, ↓bq_e, ↓bq_r, ↓rq_n, ↓rq_r, ↓rq_e]
  refine CallS.mk (s_LClone lb b1 b2 t _ Lb) fun r H' hr => ?_
  obtain ⟨ly, y1, y2, k1, k2, k3, k4, rfl, rfl⟩ := hr
  have nay := ne_of_blk La.blk k1
  replace La := La.newL_other nay k2 k3 t
  have nby := ne_of_blk Lb.blk k1
  replace Lb := Lb.newL_other nby k2 k3 t
  have ncy := ne_of_blk Lc.blk k1
  replace Lc := Lc.newL_other ncy k2 k3 t
  have nxy := ne_of_blk Lx.blk k1
  replace Lx := Lx.newL_other nxy k2 k3 t
  have Ly := Led.newL_self G4 ly k4 t
  have fy := le_none hle k1
  replace hle := le_newL hle fy k2 k3 t
  generalize newL G4 ly y1 y2 t = G5 at La Lb Lc Lx Ly hle ⊢
  clear k1 k2 k3 k4
  simp only [F_law_DecisionGroups, g_law_DecisionGroups, go_sem, reduceIte, Nat.reduceEqDiff, Nat.reduceAdd, Nat.reduceMul, Nat.reduceSub, reduceCtorEq, Nat.reduceLeDiff, Nat.reduceLT, Int.reduceLT, Int.reduceLE, Int.reduceToNat, Int.reduceAdd, Int.reduceSub, Int.reduceNeg, Int.reduceMul, Int.reduceEq, ← Bool.decide_and, ← Bool.decide_or, ↓tq_n, ↓tq_e, ↓tq_r, ↓bq_n, ↓bq_e, ↓bq_r, ↓rq_n, ↓rq_r, ↓rq_e]
  refine CallS.mk (s_decision_Ledger_Join lx x1 x2 lb b1 b2 s t oks okt _ Lx Lb) fun r H' hr => ?_
  obtain ⟨rfl, i1, i2⟩ := hr
  by_cases j1 : jn s t = 0
  case neg =>
    obtain rfl := i1 j1
    simp only [j1, F_law_DecisionGroups, g_law_DecisionGroups, go_sem, reduceIte, Nat.reduceEqDiff, Nat.reduceAdd, Nat.reduceMul, Nat.reduceSub, reduceCtorEq, Nat.reduceLeDiff, Nat.reduceLT, Int.reduceLT, Int.reduceLE, Int.reduceToNat, Int.reduceAdd, Int.reduceSub, Int.reduceNeg, Int.reduceMul, Int.reduceEq, ← Bool.decide_and, ← Bool.decide_or, ↓tq_n, ↓tq_e, ↓tq_r, ↓bq_n, ↓bq_e, ↓bq_r, ↓rq_n, ↓rq_r, ↓rq_e]
    exact ret_le hle (AV.le.refl _)
  rw [j1]
  obtain ⟨u, p1, p2, Tu, f1, f2, f3, rfl⟩ := i2 j1
  clear i1 i2
  replace La := La.newL_other nax f1 f2 u
  replace Lb := Lb.newL_other nbx f1 f2 u
  replace Lc := Lc.newL_other ncx f1 f2 u
  replace Ly := Ly.newL_other nxy.symm f1 f2 u
  replace Lx := Led.newL_self G5 lx f3 u
  replace hle := le_newL hle fx f1 f2 u
  generalize newL G5 lx p1 p2 u = G6 at La Lb Lc Lx Ly hle ⊢
  clear f1 f2 f3
  simp only [F_law_DecisionGroups, g_law_DecisionGroups, go_sem, reduceIte, Nat.reduceEqDiff, Nat.reduceAdd, Nat.reduceMul, Nat.reduceSub, reduceCtorEq, Nat.reduceLeDiff, Nat.reduceLT, Int.reduceLT, Int.reduceLE, Int.reduceToNat, Int.reduceAdd, Int.reduceSub, Int.reduceNeg, Int.reduceMul, Int.reduceEq, ← Bool.decide_and, ← Bool.decide_or, ↓tq_n, ↓tq_e, ↓tq_r, ↓bq_n, ↓bq_e, ↓bq_r, ↓rq_n, ↓rq_r, ↓rq_e]
  refine CallS.mk (s_decision_Ledger_Join lx p1 p2 lc c1 c2 u w Tu.ok okw _ Lx Lc) fun r H' hr => ?_
  obtain ⟨rfl, i1, i2⟩ := hr
  by_cases j2 : jn u w = 0
  case neg =>
    obtain rfl := i1 j2
    simp only [j2, F_law_DecisionGroups, g_law_DecisionGroups, go_sem, reduceIte, Nat.reduceEqDiff, Nat.reduceAdd, Nat.reduceMul, Nat.reduceSub, reduceCtorEq, Nat.reduceLeDiff, Nat.reduceLT, Int.reduceLT, Int.reduceLE, Int.reduceToNat, Int.reduceAdd, Int.reduceSub, Int.reduceNeg, Int.reduceMul, Int.reduceEq, ← Bool.decide_and, ← Bool.decide_or, ↓tq_n, ↓tq_e, ↓tq_r, ↓bq_n, ↓bq_e, ↓bq_r, ↓rq_n, ↓rq_r, ↓rq_e]
    exact ret_le hle (AV.le.refl _)
  rw [j2]
  obtain ⟨v, q1, q2, Tv, f1, f2, f3, rfl⟩ := i2 j2
  clear i1 i2
  replace La := La.newL_other nax f1 f2 v
  replace Lb := Lb.newL_other nbx f1 f2 v
  replace Lc := Lc.newL_other ncx f1 f2 v
  replace Ly := Ly.newL_other nxy.symm f1 f2 v
  replace Lx := Led.newL_self G6 lx f3 v
  replace hle := le_newL hle fx f1 f2 v
  generalize newL G6 lx q1 q2 v = G7 at La Lb Lc Lx Ly hle ⊢
  clear f1 f2 f3
  have z1 : ∀ d ∈ s.1, d ∈ v.1 := fun d hd => (Tv.m1 d).2 (.inl ((Tu.m1 d).2 (.inl hd)))
  have z2 : ∀ d ∈ s.2, d ∈ v.2 := fun d hd => (Tv.m2 d).2 (.inl ((Tu.m2 d).2 (.inl hd)))
  have z3 : ∀ d ∈ t.1, d ∈ v.1 := fun d hd => (Tv.m1 d).2 (.inl ((Tu.m1 d).2 (.inr hd)))
  have z4 : ∀ d ∈ t.2, d ∈ v.2 := fun d hd => (Tv.m2 d).2 (.inl ((Tu.m2 d).2 (.inr hd)))
  have z5 : ∀ d ∈ w.1, d ∈ v.1 := fun d hd => (Tv.m1 d).2 (.inr hd)
  have z6 : ∀ d ∈ w.2, d ∈ v.2 := fun d hd => (Tv.m2 d).2 (.inr hd)
  have j3 : jn t w = 0 := jn_in Tv.ok okt okw z3 z4 z5 z6
  simp only [F_law_DecisionGroups, g_law_DecisionGroups, go_sem, reduceIte, Nat.reduceEqDiff, Nat.reduceAdd, Nat.reduceMul, Nat.reduceSub, reduceCtorEq, Nat.reduceLeDiff, Nat.reduceLT, Int.reduceLT, Int.reduceLE, Int.reduceToNat, Int.reduceAdd, Int.reduceSub, Int.reduceNeg, Int.reduceMul, Int.reduceEq, ← Bool.decide_and, ← Bool.decide_or, ↓tq_n, ↓tq_e, ↓tq_r, ↓bq_n, ↓bq_e, ↓bq_r, ↓rq_n, ↓rq_r, ↓rq_e]
  refine CallS.mk (s_decision_Ledger_Join ly y1 y2 lc c1 c2 t w okt okw _ Ly Lc) fun r H' hr => ?_
  rw [j3] at hr
  obtain ⟨rfl, i1, i2⟩ := hr
  obtain ⟨p, e1, e2, Tp, f1, f2, f3, rfl⟩ := i2 rfl
  clear i1 i2
  replace La := La.newL_other nay f1 f2 p
  replace Lb := Lb.newL_other nby f1 f2 p
  replace Lc := Lc.newL_other ncy f1 f2 p
  replace Lx := Lx.newL_other nxy f1 f2 p
  replace Ly := Led.newL_self G7 ly f3 p
  replace hle := le_newL hle fy f1 f2 p
  generalize newL G7 ly e1 e2 p = G8 at La Lb Lc Lx Ly hle ⊢
  clear f1 f2 f3
  have j4 : jn s p = 0 := jn_in Tv.ok oks Tp.ok z1 z2 (fun d hd => ((Tp.m1 d).1 hd).elim (z3 d) (z5 d)) (fun d hd => ((Tp.m2 d).1 hd).elim (z4 d) (z6 d))
  simp only [F_law_DecisionGroups, g_law_DecisionGroups, go_sem, reduceIte, Nat.reduceEqDiff, Nat.reduceAdd, Nat.reduceMul, Nat.reduceSub, reduceCtorEq, Nat.reduceLeDiff, Nat.reduceLT, Int.reduceLT, Int.reduceLE, Int.reduceToNat, Int.reduceAdd, Int.reduceSub, Int.reduceNeg, Int.reduceMul, Int.reduceEq, ← Bool.decide_and, ← Bool.decide_or, ↓tq_n, ↓tq_e, ↓tq_r, ↓bq_n, ↓bq_e, ↓bq_r, ↓rq_n, ↓rq_r, ↓rq_e]
  refine CallS.mk (s_decision_Ledger_Join la a1 a2 ly e1 e2 s p oks Tp.ok _ La Ly) fun r H' hr => ?_
  rw [j4] at hr
  obtain ⟨rfl, i1, i2⟩ := hr
  obtain ⟨r, g1, g2, Tr, f1, f2, f3, rfl⟩ := i2 rfl
  clear i1 i2
  replace Lb := Lb.newL_other nab.symm f1 f2 r
  replace Lc := Lc.newL_other nac.symm f1 f2 r
  replace Lx := Lx.newL_other nax.symm f1 f2 r
  replace Ly := Ly.newL_other nay.symm f1 f2 r
  replace La := Led.newL_self G8 la f3 r
  replace hle := le_newL hle fa f1 f2 r
  generalize newL G8 la g1 g2 r = G9 at La Lb Lc Lx Ly hle ⊢
  clear f1 f2 f3
  have hrv : srS r = srS v := sr_eq Tr.ok Tv.ok (fun d => by rw [Tr.m1, Tp.m1, Tv.m1, Tu.m1]; exact or_assoc.symm) (fun d => by rw [Tr.m2, Tp.m2, Tv.m2, Tu.m2]; exact or_assoc.symm)
  simp only [F_law_DecisionGroups, g_law_DecisionGroups, go_sem, reduceIte, Nat.reduceEqDiff, Nat.reduceAdd, Nat.reduceMul, Nat.reduceSub, reduceCtorEq, Nat.reduceLeDiff, Nat.reduceLT, Int.reduceLT, Int.reduceLE, Int.reduceToNat, Int.reduceAdd, Int.reduceSub, Int.reduceNeg, Int.reduceMul, Int.reduceEq, ← Bool.decide_and, ← Bool.decide_or, ↓tq_n, ↓tq_e, ↓tq_r, ↓bq_n, ↓bq_e, ↓bq_r, ↓rq_n, ↓rq_r, ↓rq_e]
  refine CallG.mk (r_decision_Ledger_Same la g1 g2 lx q1 q2 r v Tr.ok Tv.ok _ La Lx) ?_
  rw [decide_eq_true hrv]
  simp only [F_law_DecisionGroups, g_law_DecisionGroups, go_sem, reduceIte, Nat.reduceEqDiff, Nat.reduceAdd, Nat.reduceMul, Nat.reduceSub, reduceCtorEq, Nat.reduceLeDiff, Nat.reduceLT, Int.reduceLT, Int.reduceLE, Int.reduceToNat, Int.reduceAdd, Int.reduceSub, Int.reduceNeg, Int.reduceMul, Int.reduceEq, ← Bool.decide_and, ← Bool.decide_or, ↓tq_n, ↓tq_e, ↓tq_r, ↓bq_n, ↓bq_e, ↓bq_r, ↓rq_n, ↓rq_r, ↓rq_e]
  refine CallG.mk (r_decision_Ledger_Standing la g1 g2 r Tr.ok _ La) ?_
  simp only [F_law_DecisionGroups, g_law_DecisionGroups, go_sem, reduceIte, Nat.reduceEqDiff, Nat.reduceAdd, Nat.reduceMul, Nat.reduceSub, reduceCtorEq, Nat.reduceLeDiff, Nat.reduceLT, Int.reduceLT, Int.reduceLE, Int.reduceToNat, Int.reduceAdd, Int.reduceSub, Int.reduceNeg, Int.reduceMul, Int.reduceEq, ← Bool.decide_and, ← Bool.decide_or, ↓tq_n, ↓tq_e, ↓tq_r, ↓bq_n, ↓bq_e, ↓bq_r, ↓rq_n, ↓rq_r, ↓rq_e]
  refine CallG.mk (r_decision_Ledger_Standing lx q1 q2 v Tv.ok _ Lx) ?_
  simp only [stV, F_law_DecisionGroups, g_law_DecisionGroups, go_sem, reduceIte, Nat.reduceEqDiff, Nat.reduceAdd, Nat.reduceMul, Nat.reduceSub, reduceCtorEq, Nat.reduceLeDiff, Nat.reduceLT, Int.reduceLT, Int.reduceLE, Int.reduceToNat, Int.reduceAdd, Int.reduceSub, Int.reduceNeg, Int.reduceMul, Int.reduceEq, ← Bool.decide_and, ← Bool.decide_or, ↓tq_n, ↓tq_e, ↓tq_r, ↓bq_n, ↓bq_e, ↓bq_r, ↓rq_n, ↓rq_r, ↓rq_e]
  refine CallG.mk (r_base_Decisions _ (stL r) _ _ (stL v) _ _) ?_
  rw [decide_eq_true (st_eq hrv)]
  simp only [F_law_DecisionGroups, g_law_DecisionGroups, go_sem, reduceIte, Nat.reduceEqDiff, Nat.reduceAdd, Nat.reduceMul, Nat.reduceSub, reduceCtorEq, Nat.reduceLeDiff, Nat.reduceLT, Int.reduceLT, Int.reduceLE, Int.reduceToNat, Int.reduceAdd, Int.reduceSub, Int.reduceNeg, Int.reduceMul, Int.reduceEq, ← Bool.decide_and, ← Bool.decide_or, ↓tq_n, ↓tq_e, ↓tq_r, ↓bq_n, ↓bq_e, ↓bq_r, ↓rq_n, ↓rq_r, ↓rq_e]
  exact ret_le hle (AV.le.refl _)
end Go.Proofs.Ytcnmodnafnadlaa
