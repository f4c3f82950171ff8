/- Calls of functions of this seat's program: the reference's Make and Withdraw; a call of either ledger. No condition. -/
import Derived.Test.YtcnmodnafnadlaaD3
namespace Go.Proofs.Ytcnmodnafnadlaa
open Go Go.Abs
set_option linter.unusedSimpArgs false
set_option linter.unusedVariables false
set_option maxRecDepth 20000

/-- Make and Withdraw of the reference. -/
def rmkL (D : List Dec) (d : Dec) : Int × List Dec :=
  if dcOK d then match insD D d with
    | some o => if 200 < o.length then (6, D) else (0, o)
    | none => (10, D)
  else (1, D)
def rwdL (W : List (Int × Int)) (m : Int × Int) : Int × List (Int × Int) :=
  if mkOK m then (if 200 < (insM W m).length then (6, W) else (0, insM W m)) else (1, W)
/-- What a ledger of the reference holds. -/
abbrev RT := Bool × Tail × Bool × Tail
def rbk (q : RT) (s : List Dec × List (Int × Int)) : List AV := [.sl q.1 s.1.length (dcs s.1) q.2.1, .sl q.2.2.1 s.2.length (prs s.2) q.2.2.2]
theorem rmkL_len {D : List Dec} (h : D.length ≤ 200) (d : Dec) : (rmkL D d).2.length ≤ 200 := by
  unfold rmkL
  repeat' split
  all_goals first | exact h | (simp only; omega)
theorem rwdL_len {W : List (Int × Int)} (h : W.length ≤ 200) (m : Int × Int) : (rwdL W m).2.length ≤ 200 := by
  unfold rwdL
  repeat' split
  all_goals first | exact h | (simp only; omega)
theorem decF_one (D : List Dec) (d : Dec) : decF D [d] = insD D d := by
  show (match insD D d with | some a' => some a' | none => none) = _
  cases insD D d <;> rfl
set_option maxHeartbeats 1000000 in
theorem r_ref_Ledger_Make (rb : Nat) (q : RT) (s : List Dec × List (Int × Int)) (d : Dec) (hl : s.1.length ≤ 200) (h : AH) (hb : h.blk rb = some (rbk q s)) :
    ACalls Try.prog n_ref_Ledger_Make [.ptr rb 0, stD d] h fun r h' => r = I (rmkL s.1 d).1 ∧ ∃ q', h' = h.put rb (rbk q' ((rmkL s.1 d).2, s.2)) := by
  refine ACalls.of hm cF_ref_Ledger_Make (by simp [g_ref_Ledger_Make]) fun hw => ?_
  have hsame := AH.put_same hb
  unfold rbk at hb
  simp only [Dec.cs, F_ref_Ledger_Make, g_ref_Ledger_Make, go_sem, reduceIte, Nat.reduceEqDiff, Nat.reduceAdd, Nat.reduceMul, Nat.reduceSub, reduceCtorEq, Nat.reduceLeDiff, Nat.reduceLT, Int.reduceLT, Int.reduceLE, Int.reduceToNat, Int.reduceAdd, Int.reduceSub, Int.reduceNeg, Int.reduceMul, Int.reduceEq, ← Bool.decide_and, ← Bool.decide_or, ↓tq_n, ↓tq_e, ↓tq_r, ↓bq_n, ↓bq_e, ↓bq_r, ↓rq_n, ↓rq_r, ↓rq_e]
  refine CallG.mk (r_ref_Valid d _) ?_
  by_cases c1 : dcOK d
  case neg =>
    simp only [decide_eq_false c1, F_ref_Ledger_Make, g_ref_Ledger_Make, go_sem, reduceIte, Nat.reduceEqDiff, Nat.reduceAdd, Nat.reduceMul, Nat.reduceSub, reduceCtorEq, Nat.reduceLeDiff, Nat.reduceLT, Int.reduceLT, Int.reduceLE, Int.reduceToNat, Int.reduceAdd, Int.reduceSub, Int.reduceNeg, Int.reduceMul, Int.reduceEq, ← Bool.decide_and, ← Bool.decide_or, ↓tq_n, ↓tq_e, ↓tq_r, ↓bq_n, ↓bq_e, ↓bq_r, ↓rq_n, ↓rq_r, ↓rq_e]
    exact ⟨_, _, RGh.refl _ _, by simp [rmkL, c1], q, by simp [rmkL, c1, hsame]⟩
  have hr := r_ref_decisions q.1 s.1 q.2.1 false [d] .full (by omega) (by simp)
  rw [decF_one] at hr
  simp only [decide_eq_true c1, hb, Dec.cs, F_ref_Ledger_Make, g_ref_Ledger_Make, go_sem, reduceIte, Nat.reduceEqDiff, Nat.reduceAdd, Nat.reduceMul, Nat.reduceSub, reduceCtorEq, Nat.reduceLeDiff, Nat.reduceLT, Int.reduceLT, Int.reduceLE, Int.reduceToNat, Int.reduceAdd, Int.reduceSub, Int.reduceNeg, Int.reduceMul, Int.reduceEq, ← Bool.decide_and, ← Bool.decide_or, ↓tq_n, ↓tq_e, ↓tq_r, ↓bq_n, ↓bq_e, ↓bq_r, ↓rq_n, ↓rq_r, ↓rq_e]
  refine CallG.mk (hr _) ?_
  cases ho : insD s.1 d with
  | none =>
    simp only [dcV, F_ref_Ledger_Make, g_ref_Ledger_Make, go_sem, reduceIte, Nat.reduceEqDiff, Nat.reduceAdd, Nat.reduceMul, Nat.reduceSub, reduceCtorEq, Nat.reduceLeDiff, Nat.reduceLT, Int.reduceLT, Int.reduceLE, Int.reduceToNat, Int.reduceAdd, Int.reduceSub, Int.reduceNeg, Int.reduceMul, Int.reduceEq, ← Bool.decide_and, ← Bool.decide_or, ↓tq_n, ↓tq_e, ↓tq_r, ↓bq_n, ↓bq_e, ↓bq_r, ↓rq_n, ↓rq_r, ↓rq_e]
    exact ⟨_, _, RGh.refl _ _, by simp [rmkL, c1, ho], q, by simp [rmkL, c1, ho, hsame]⟩
  | some o =>
    by_cases c2 : 200 < o.length
    · have c3 : (200 : Int) < (o.length : Int) := by omega
      simp only [dcV, decide_eq_true c3, F_ref_Ledger_Make, g_ref_Ledger_Make, go_sem, reduceIte, Nat.reduceEqDiff, Nat.reduceAdd, Nat.reduceMul, Nat.reduceSub, reduceCtorEq, Nat.reduceLeDiff, Nat.reduceLT, Int.reduceLT, Int.reduceLE, Int.reduceToNat, Int.reduceAdd, Int.reduceSub, Int.reduceNeg, Int.reduceMul, Int.reduceEq, ← Bool.decide_and, ← Bool.decide_or, ↓tq_n, ↓tq_e, ↓tq_r, ↓bq_n, ↓bq_e, ↓bq_r, ↓rq_n, ↓rq_r, ↓rq_e]
      exact ⟨_, _, RGh.refl _ _, by simp [rmkL, c1, ho, c2], q, by simp [rmkL, c1, ho, c2, hsame]⟩
    · have c3 : ¬ (200 : Int) < (o.length : Int) := by omega
      simp only [dcV, c3, decide_eq_false c3, hb, F_ref_Ledger_Make, g_ref_Ledger_Make, go_sem, reduceIte, Nat.reduceEqDiff, Nat.reduceAdd, Nat.reduceMul, Nat.reduceSub, reduceCtorEq, Nat.reduceLeDiff, Nat.reduceLT, Int.reduceLT, Int.reduceLE, Int.reduceToNat, Int.reduceAdd, Int.reduceSub, Int.reduceNeg, Int.reduceMul, Int.reduceEq, ← Bool.decide_and, ← Bool.decide_or, ↓tq_n, ↓tq_e, ↓tq_r, ↓bq_n, ↓bq_e, ↓bq_r, ↓rq_n, ↓rq_r, ↓rq_e]
      exact ⟨_, _, RGh.refl _ _, by simp [rmkL, c1, ho, c2], (false, .unk, q.2.2.1, q.2.2.2), by simp [rmkL, c1, ho, c2, rbk]⟩
set_option maxHeartbeats 1000000 in
theorem r_ref_Ledger_Withdraw (rb : Nat) (q : RT) (s : List Dec × List (Int × Int)) (m : Int × Int) (hl : s.2.length ≤ 200) (h : AH) (hb : h.blk rb = some (rbk q s)) :
    ACalls Try.prog n_ref_Ledger_Withdraw [.ptr rb 0, stM m] h fun r h' => r = I (rwdL s.2 m).1 ∧ ∃ q', h' = h.put rb (rbk q' (s.1, (rwdL s.2 m).2)) := by
  refine ACalls.of hm cF_ref_Ledger_Withdraw (by simp [g_ref_Ledger_Withdraw]) fun hw => ?_
  have hsame := AH.put_same hb
  unfold rbk at hb
  simp only [F_ref_Ledger_Withdraw, g_ref_Ledger_Withdraw, go_sem, reduceIte, Nat.reduceEqDiff, Nat.reduceAdd, Nat.reduceMul, Nat.reduceSub, reduceCtorEq, Nat.reduceLeDiff, Nat.reduceLT, Int.reduceLT, Int.reduceLE, Int.reduceToNat, Int.reduceAdd, Int.reduceSub, Int.reduceNeg, Int.reduceMul, Int.reduceEq, ← Bool.decide_and, ← Bool.decide_or, ↓tq_n, ↓tq_e, ↓tq_r, ↓bq_n, ↓bq_e, ↓bq_r, ↓rq_n, ↓rq_r, ↓rq_e]
  refine CallG.mk (r_base_Mark m _) ?_
  by_cases c1 : mkOK m
  case neg =>
    simp only [decide_eq_false c1, F_ref_Ledger_Withdraw, g_ref_Ledger_Withdraw, go_sem, reduceIte, Nat.reduceEqDiff, Nat.reduceAdd, Nat.reduceMul, Nat.reduceSub, reduceCtorEq, Nat.reduceLeDiff, Nat.reduceLT, Int.reduceLT, Int.reduceLE, Int.reduceToNat, Int.reduceAdd, Int.reduceSub, Int.reduceNeg, Int.reduceMul, Int.reduceEq, ← Bool.decide_and, ← Bool.decide_or, ↓tq_n, ↓tq_e, ↓tq_r, ↓bq_n, ↓bq_e, ↓bq_r, ↓rq_n, ↓rq_r, ↓rq_e]
    exact ⟨_, _, RGh.refl _ _, by simp [rwdL, c1], q, by simp [rwdL, c1, hsame]⟩
  have hr := r_ref_marks q.2.2.1 s.2 q.2.2.2 false [m] .full (by omega) (by simp)
  have e1 : mksF s.2 [m] = insM s.2 m := rfl
  rw [e1] at hr
  simp only [decide_eq_true c1, hb, F_ref_Ledger_Withdraw, g_ref_Ledger_Withdraw, go_sem, reduceIte, Nat.reduceEqDiff, Nat.reduceAdd, Nat.reduceMul, Nat.reduceSub, reduceCtorEq, Nat.reduceLeDiff, Nat.reduceLT, Int.reduceLT, Int.reduceLE, Int.reduceToNat, Int.reduceAdd, Int.reduceSub, Int.reduceNeg, Int.reduceMul, Int.reduceEq, ← Bool.decide_and, ← Bool.decide_or, ↓tq_n, ↓tq_e, ↓tq_r, ↓bq_n, ↓bq_e, ↓bq_r, ↓rq_n, ↓rq_r, ↓rq_e]
  refine CallG.mk (hr _) ?_
  by_cases c2 : 200 < (insM s.2 m).length
  · have c3 : (200 : Int) < ((insM s.2 m).length : Int) := by omega
    simp only [decide_eq_true c3, F_ref_Ledger_Withdraw, g_ref_Ledger_Withdraw, go_sem, reduceIte, Nat.reduceEqDiff, Nat.reduceAdd, Nat.reduceMul, Nat.reduceSub, reduceCtorEq, Nat.reduceLeDiff, Nat.reduceLT, Int.reduceLT, Int.reduceLE, Int.reduceToNat, Int.reduceAdd, Int.reduceSub, Int.reduceNeg, Int.reduceMul, Int.reduceEq, ← Bool.decide_and, ← Bool.decide_or, ↓tq_n, ↓tq_e, ↓tq_r, ↓bq_n, ↓bq_e, ↓bq_r, ↓rq_n, ↓rq_r, ↓rq_e]
    exact ⟨_, _, RGh.refl _ _, by simp [rwdL, c1, c2], q, by simp [rwdL, c1, c2, hsame]⟩
  · have c3 : ¬ (200 : Int) < ((insM s.2 m).length : Int) := by omega
    simp only [c3, decide_eq_false c3, hb, F_ref_Ledger_Withdraw, g_ref_Ledger_Withdraw, go_sem, reduceIte, Nat.reduceEqDiff, Nat.reduceAdd, Nat.reduceMul, Nat.reduceSub, reduceCtorEq, Nat.reduceLeDiff, Nat.reduceLT, Int.reduceLT, Int.reduceLE, Int.reduceToNat, Int.reduceAdd, Int.reduceSub, Int.reduceNeg, Int.reduceMul, Int.reduceEq, ← Bool.decide_and, ← Bool.decide_or, ↓tq_n, ↓tq_e, ↓tq_r, ↓bq_n, ↓bq_e, ↓bq_r, ↓rq_n, ↓rq_r, ↓rq_e]
    exact ⟨_, _, RGh.refl _ _, by simp [rwdL, c1, c2], (q.1, q.2.1, false, .unk), by simp [rwdL, c1, c2, rbk]⟩
/-- A call of Make, or of Withdraw. -/
structure Op where
  back : Bool
  d : Dec
  m : Int × Int
def Op.cs (o : Op) : List AV := [.bool o.back, I o.d.au, I o.d.nu, I o.d.ki, I o.d.a, I o.d.b, I o.m.1, I o.m.2]
def dO : Op := ⟨false, dD, (0, 0)⟩
def ops (e : List Op) : List AV := e.flatMap Op.cs
theorem ops_len (e : List Op) : (ops e).length = e.length * 8 := flat_len (f := Op.cs) (n := 8) (fun _ => rfl) e
theorem ops_drop {e : List Op} {i : Nat} (h : i < e.length) : (ops e).drop (i * 8) = (.bool (e.getD i dO).back : AV) :: I (e.getD i dO).d.au :: I (e.getD i dO).d.nu :: I (e.getD i dO).d.ki :: I (e.getD i dO).d.a :: I (e.getD i dO).d.b :: I (e.getD i dO).m.1 :: I (e.getD i dO).m.2 :: (ops e).drop ((i + 1) * 8) := flat_drop (f := Op.cs) (fun _ => rfl) dO h
abbrev stO (o : Op) : AV := .st o.cs
abbrev St := List Dec × List (Int × Int)
def doA (s : St) (o : Op) : Int × St := if o.back then ((wdL s.2 o.m).1, (s.1, (wdL s.2 o.m).2)) else ((mkL s.1 o.d).1, ((mkL s.1 o.d).2, s.2))
def doR (s : St) (o : Op) : Int × St := if o.back then ((rwdL s.2 o.m).1, (s.1, (rwdL s.2 o.m).2)) else ((rmkL s.1 o.d).1, ((rmkL s.1 o.d).2, s.2))
def Few (s : St) : Prop := s.1.length ≤ 200 ∧ s.2.length ≤ 200
theorem doA_few {s : St} (h : Few s) (o : Op) : Few (doA s o).2 := by
  unfold doA
  split
  · exact ⟨h.1, wdL_len h.2 _⟩
  · exact ⟨mkL_len h.1 _, h.2⟩
theorem doR_few {s : St} (h : Few s) (o : Op) : Few (doR s o).2 := by
  unfold doR
  split
  · exact ⟨h.1, rwdL_len h.2 _⟩
  · exact ⟨rmkL_len h.1 _, h.2⟩
/-- A ledger in memory. -/
structure Led (h : AH) (lb b1 b2 : Nat) (s : St) : Prop where
  blk : h.blk lb = some [.map b1, .map b2]
  m1 : h.mp b1 = some (enD s.1)
  m2 : h.mp b2 = some (enM s.2)
  ne : b1 ≠ b2
def setL (h : AH) (b1 b2 : Nat) (s : St) : AH := (h.putM b1 (enD s.1)).putM b2 (enM s.2)
theorem Led.set {h : AH} {lb b1 b2 : Nat} {s : St} (k : Led h lb b1 b2 s) (s' : St) : Led (setL h b1 b2 s') lb b1 b2 s' :=
  ⟨k.blk, by unfold setL; rw [AH.mp_putM_ne _ _ k.ne, AH.mp_putM], AH.mp_putM _ _ _, k.ne⟩
theorem Led.self {h : AH} {lb b1 b2 : Nat} {s : St} (k : Led h lb b1 b2 s) : setL h b1 b2 s = h := by
  unfold setL
  rw [AH.putM_same k.m1, AH.putM_same k.m2]
theorem AH.putM_comm (h : AH) {b c : Nat} (x y : List (AV × AV)) (hn : b ≠ c) : (h.putM b x).putM c y = (h.putM c y).putM b x := by
  simp only [AH.putM, AH.mk.injEq, true_and]
  funext z
  by_cases h1 : z = c
  · subst h1
    rw [if_pos rfl, if_neg hn.symm, if_pos rfl]
  · rw [if_neg h1, if_neg h1]
theorem setL_setL (h : AH) {b1 b2 : Nat} (hn : b1 ≠ b2) (s s' : St) : setL (setL h b1 b2 s) b1 b2 s' = setL h b1 b2 s' := by
  unfold setL
  rw [← AH.putM_comm _ _ _ hn, AH.putM_putM, AH.putM_putM]
set_option maxHeartbeats 1000000 in
theorem r_law_do (lb b1 b2 : Nat) (s : St) (o : Op) (hf : Few s) (h : AH) (hk : Led h lb b1 b2 s) :
    ACalls Try.prog n_law_do [.ptr lb 0, stO o] h fun r h' => r = I (doA s o).1 ∧ h' = setL h b1 b2 (doA s o).2 := by
  refine ACalls.of hm cF_law_do (by simp [g_law_do]) fun hw => ?_
  obtain ⟨back, d, m⟩ := o
  cases back with
  | true =>
    simp only [Op.cs, F_law_do, g_law_do, go_sem, reduceIte, Nat.reduceEqDiff, Nat.reduceAdd, Nat.reduceMul, Nat.reduceSub, reduceCtorEq, Nat.reduceLeDiff, Nat.reduceLT, Int.reduceLT, Int.reduceLE, Int.reduceToNat, Int.reduceAdd, Int.reduceSub, Int.reduceNeg, Int.reduceMul, Int.reduceEq, ← Bool.decide_and, ← Bool.decide_or, ↓tq_n, ↓tq_e, ↓tq_r, ↓bq_n, ↓bq_e, ↓bq_r, ↓rq_n, ↓rq_r, ↓rq_e]
    refine CallS.mk (r_decision_Ledger_Withdraw lb b1 b2 s.2 m hf.2 _ hk.blk hk.m2) fun r H' hr => ?_
    obtain ⟨rfl, rfl⟩ := hr
    simp only [F_law_do, g_law_do, go_sem, reduceIte, Nat.reduceEqDiff, Nat.reduceAdd, Nat.reduceMul, Nat.reduceSub, reduceCtorEq, Nat.reduceLeDiff, Nat.reduceLT, Int.reduceLT, Int.reduceLE, Int.reduceToNat, Int.reduceAdd, Int.reduceSub, Int.reduceNeg, Int.reduceMul, Int.reduceEq, ← Bool.decide_and, ← Bool.decide_or, ↓tq_n, ↓tq_e, ↓tq_r, ↓bq_n, ↓bq_e, ↓bq_r, ↓rq_n, ↓rq_r, ↓rq_e]
    exact ⟨_, _, RGh.refl _ _, rfl, by unfold setL doA; simp only [if_true]; rw [AH.putM_same hk.m1]⟩
  | false =>
    simp only [Op.cs, F_law_do, g_law_do, go_sem, reduceIte, Nat.reduceEqDiff, Nat.reduceAdd, Nat.reduceMul, Nat.reduceSub, reduceCtorEq, Nat.reduceLeDiff, Nat.reduceLT, Int.reduceLT, Int.reduceLE, Int.reduceToNat, Int.reduceAdd, Int.reduceSub, Int.reduceNeg, Int.reduceMul, Int.reduceEq, ← Bool.decide_and, ← Bool.decide_or, ↓tq_n, ↓tq_e, ↓tq_r, ↓bq_n, ↓bq_e, ↓bq_r, ↓rq_n, ↓rq_r, ↓rq_e]
    refine CallS.mk (r_decision_Ledger_Make lb b1 b2 s.1 d hf.1 _ hk.blk hk.m1) fun r H' hr => ?_
    obtain ⟨rfl, rfl⟩ := hr
    simp only [F_law_do, g_law_do, go_sem, reduceIte, Nat.reduceEqDiff, Nat.reduceAdd, Nat.reduceMul, Nat.reduceSub, reduceCtorEq, Nat.reduceLeDiff, Nat.reduceLT, Int.reduceLT, Int.reduceLE, Int.reduceToNat, Int.reduceAdd, Int.reduceSub, Int.reduceNeg, Int.reduceMul, Int.reduceEq, ← Bool.decide_and, ← Bool.decide_or, ↓tq_n, ↓tq_e, ↓tq_r, ↓bq_n, ↓bq_e, ↓bq_r, ↓rq_n, ↓rq_r, ↓rq_e]
    exact ⟨_, _, RGh.refl _ _, rfl, by
      unfold setL doA
      simp only [Bool.false_eq_true, if_false]
      exact (AH.putM_same ((AH.mp_putM_ne _ _ (Ne.symm hk.ne)).trans hk.m2)).symm⟩
set_option maxHeartbeats 1000000 in
theorem r_law_refer (rb : Nat) (q : RT) (s : St) (o : Op) (hf : Few s) (h : AH) (hb : h.blk rb = some (rbk q s)) :
    ACalls Try.prog n_law_refer [.ptr rb 0, stO o] h fun r h' => r = I (doR s o).1 ∧ ∃ q', h' = h.put rb (rbk q' (doR s o).2) := by
  refine ACalls.of hm cF_law_refer (by simp [g_law_refer]) fun hw => ?_
  obtain ⟨back, d, m⟩ := o
  cases back with
  | true =>
    simp only [Op.cs, F_law_refer, g_law_refer, go_sem, reduceIte, Nat.reduceEqDiff, Nat.reduceAdd, Nat.reduceMul, Nat.reduceSub, reduceCtorEq, Nat.reduceLeDiff, Nat.reduceLT, Int.reduceLT, Int.reduceLE, Int.reduceToNat, Int.reduceAdd, Int.reduceSub, Int.reduceNeg, Int.reduceMul, Int.reduceEq, ← Bool.decide_and, ← Bool.decide_or, ↓tq_n, ↓tq_e, ↓tq_r, ↓bq_n, ↓bq_e, ↓bq_r, ↓rq_n, ↓rq_r, ↓rq_e]
    refine CallS.mk (r_ref_Ledger_Withdraw rb q s m hf.2 _ hb) fun r H' hr => ?_
    obtain ⟨rfl, q', rfl⟩ := hr
    simp only [F_law_refer, g_law_refer, go_sem, reduceIte, Nat.reduceEqDiff, Nat.reduceAdd, Nat.reduceMul, Nat.reduceSub, reduceCtorEq, Nat.reduceLeDiff, Nat.reduceLT, Int.reduceLT, Int.reduceLE, Int.reduceToNat, Int.reduceAdd, Int.reduceSub, Int.reduceNeg, Int.reduceMul, Int.reduceEq, ← Bool.decide_and, ← Bool.decide_or, ↓tq_n, ↓tq_e, ↓tq_r, ↓bq_n, ↓bq_e, ↓bq_r, ↓rq_n, ↓rq_r, ↓rq_e]
    exact ⟨_, _, RGh.refl _ _, rfl, q', rfl⟩
  | false =>
    simp only [Op.cs, F_law_refer, g_law_refer, go_sem, reduceIte, Nat.reduceEqDiff, Nat.reduceAdd, Nat.reduceMul, Nat.reduceSub, reduceCtorEq, Nat.reduceLeDiff, Nat.reduceLT, Int.reduceLT, Int.reduceLE, Int.reduceToNat, Int.reduceAdd, Int.reduceSub, Int.reduceNeg, Int.reduceMul, Int.reduceEq, ← Bool.decide_and, ← Bool.decide_or, ↓tq_n, ↓tq_e, ↓tq_r, ↓bq_n, ↓bq_e, ↓bq_r, ↓rq_n, ↓rq_r, ↓rq_e]
    refine CallS.mk (r_ref_Ledger_Make rb q s d hf.1 _ hb) fun r H' hr => ?_
    obtain ⟨rfl, q', rfl⟩ := hr
    simp only [F_law_refer, g_law_refer, go_sem, reduceIte, Nat.reduceEqDiff, Nat.reduceAdd, Nat.reduceMul, Nat.reduceSub, reduceCtorEq, Nat.reduceLeDiff, Nat.reduceLT, Int.reduceLT, Int.reduceLE, Int.reduceToNat, Int.reduceAdd, Int.reduceSub, Int.reduceNeg, Int.reduceMul, Int.reduceEq, ← Bool.decide_and, ← Bool.decide_or, ↓tq_n, ↓tq_e, ↓tq_r, ↓bq_n, ↓bq_e, ↓bq_r, ↓rq_n, ↓rq_r, ↓rq_e]
    exact ⟨_, _, RGh.refl _ _, rfl, q', rfl⟩
end Go.Proofs.Ytcnmodnafnadlaa
