/- Calls of functions of this seat's program: a ledger's maps, and what Make and Withdraw do to them. No condition. -/
import Derived.Test.YtcnmodnafnadlaaD1
import Derived.Test.YtcnmodnafnadlaaC2
namespace Go.Proofs.Ytcnmodnafnadlaa
open Go Go.Abs
set_option linter.unusedSimpArgs false
set_option linter.unusedVariables false
set_option maxRecDepth 20000

theorem Dec.ext' {x y : Dec} (h : x.au = y.au ∧ x.nu = y.nu ∧ x.ki = y.ki ∧ x.a = y.a ∧ x.b = y.b) : x = y := by
  obtain ⟨a1, a2, a3, a4, a5⟩ := h
  cases x; cases y; simp_all
instance : DecidableEq Dec := fun x y => decidable_of_iff (x.au = y.au ∧ x.nu = y.nu ∧ x.ki = y.ki ∧ x.a = y.a ∧ x.b = y.b) ⟨Dec.ext', fun h => by subst h; exact ⟨rfl, rfl, rfl, rfl, rfl⟩⟩
/-- The entries of a ledger's maps. -/
def enD (M : List Dec) : List (AV × AV) := M.map fun d => (stM d.mk2, stD d)
def enM (W : List (Int × Int)) : List (AV × AV) := W.map fun m => (stM m, .bool true)
theorem enD_len (M : List Dec) : (enD M).length = M.length := by simp [enD]
theorem enM_len (W : List (Int × Int)) : (enM W).length = W.length := by simp [enM]
theorem key_st (k q : Int × Int) : keyEq (some 2) (stM k) (stM q) = some (decide (k = q)) := by
  have : decide (k = q) = (decide (k.1 = q.1) && decide (k.2 = q.2)) := by rw [← Bool.decide_and]; exact decide_eq_decide.2 ⟨fun h => by rw [h]; exact ⟨rfl, rfl⟩, fun h => Prod.ext h.1 h.2⟩
  rw [this]
  simp [keyEq, eqCells]
theorem find_enD (k : Int × Int) : ∀ M : List Dec, findAV (some 2) (stM k) (enD M) = some ((M.find? fun d => decide (k = d.mk2)).map stD) := by
  intro M
  induction M with
  | nil => simp [enD, findAV, keyOK, eqCells]
  | cons d M ih =>
    have e : enD (d :: M) = (stM d.mk2, stD d) :: enD M := rfl
    rw [e, findAV, key_st]
    by_cases h : k = d.mk2
    · rw [decide_eq_true h]
      simp [h]
    · rw [decide_eq_false h]
      simp only
      rw [ih, List.find?_cons, decide_eq_false h]
theorem upd_enD {d : Dec} : ∀ {M : List Dec}, (∀ x ∈ M, x.mk2 ≠ d.mk2) → updAV (some 2) (stM d.mk2) (stD d) (enD M) = some (enD (M ++ [d])) := by
  intro M
  induction M with
  | nil => intro _; simp [enD, updAV, keyOK, eqCells]
  | cons x M ih =>
    intro h
    have e : enD (x :: M) = (stM x.mk2, stD x) :: enD M := rfl
    rw [e, updAV, key_st, decide_eq_false fun hh => h x (by simp) hh.symm]
    simp only
    rw [ih fun y hy => h y (by simp [hy])]
    rfl
theorem find_enM (k : Int × Int) : ∀ W : List (Int × Int), findAV (some 2) (stM k) (enM W) = some (if k ∈ W then some (.bool true) else none) := by
  intro W
  induction W with
  | nil => simp [enM, findAV, keyOK, eqCells]
  | cons d W ih =>
    have e : enM (d :: W) = (stM d, .bool true) :: enM W := rfl
    rw [e, findAV, key_st]
    by_cases h : k = d
    · rw [decide_eq_true h]
      simp [h]
    · rw [decide_eq_false h]
      simp only
      rw [ih]
      simp [h]
theorem upd_enM {k : Int × Int} : ∀ {W : List (Int × Int)}, k ∉ W → updAV (some 2) (stM k) (.bool true) (enM W) = some (enM (W ++ [k])) := by
  intro W
  induction W with
  | nil => intro _; simp [enM, updAV, keyOK, eqCells]
  | cons x W ih =>
    intro h
    have e : enM (x :: W) = (stM x, .bool true) :: enM W := rfl
    rw [e, updAV, key_st, decide_eq_false fun hh => h (by simp [hh])]
    simp only
    rw [ih fun hy => h (by simp [hy])]
    rfl
theorem AH.putM_same {h : AH} {b : Nat} {es : List (AV × AV)} (hb : h.mp b = some es) : h.putM b es = h := by
  cases h with
  | mk bl tk mp =>
    simp only [AH.putM, AH.mk.injEq, true_and]
    funext x
    split
    · rename_i e; subst e; exact hb.symm
    · rfl
theorem AH.mp_putM (h : AH) (b : Nat) (es : List (AV × AV)) : (h.putM b es).mp b = some es := by simp [AH.putM]
theorem AH.mp_putM_ne (h : AH) {b c : Nat} (es : List (AV × AV)) (hn : c ≠ b) : (h.putM b es).mp c = h.mp c := by simp [AH.putM, hn]
theorem AH.putM_putM (h : AH) (b : Nat) (x y : List (AV × AV)) : (h.putM b x).putM b y = h.putM b y := by
  simp only [AH.putM, AH.mk.injEq, true_and]
  funext z
  split <;> rfl
/-- Make and Withdraw on lists. -/
def mkL (M : List Dec) (d : Dec) : Int × List Dec :=
  if dcOK d then match M.find? fun x => decide (d.mk2 = x.mk2) with
    | some o => if o = d then (0, M) else (10, M)
    | none => if 200 ≤ M.length then (6, M) else (0, M ++ [d])
  else (1, M)
def wdL (W : List (Int × Int)) (m : Int × Int) : Int × List (Int × Int) :=
  if mkOK m then if m ∈ W then (0, W) else if 200 ≤ W.length then (6, W) else (0, W ++ [m]) else (1, W)
theorem mkL_len {M : List Dec} (h : M.length ≤ 200) (d : Dec) : (mkL M d).2.length ≤ 200 := by
  unfold mkL
  repeat' split
  all_goals first | exact h | (simp only [List.length_append, List.length_singleton]; omega)
theorem wdL_len {W : List (Int × Int)} (h : W.length ≤ 200) (m : Int × Int) : (wdL W m).2.length ≤ 200 := by
  unfold wdL
  repeat' split
  all_goals first | exact h | (simp only [List.length_append, List.length_singleton]; omega)
set_option maxHeartbeats 1000000 in
theorem r_decision_Ledger_Make (lb b1 b2 : Nat) (M : List Dec) (d : Dec) (hl : M.length ≤ 200) (h : AH) (hb : h.blk lb = some [.map b1, .map b2]) (h1 : h.mp b1 = some (enD M)) :
    ACalls Try.prog n_decision_Ledger_Make [.ptr lb 0, stD d] h fun r h' => r = I (mkL M d).1 ∧ h' = h.putM b1 (enD (mkL M d).2) := by
  refine ACalls.of hm cF_decision_Ledger_Make (by simp [g_decision_Ledger_Make]) fun hw => ?_
  have hsame := AH.putM_same h1
  simp only [Dec.cs, F_decision_Ledger_Make, g_decision_Ledger_Make, go_sem, reduceIte, Nat.reduceEqDiff, Nat.reduceAdd, Nat.reduceMul, Nat.reduceSub, reduceCtorEq, Nat.reduceLeDiff, Nat.reduceLT, Int.reduceLT, Int.reduceLE, Int.reduceToNat, Int.reduceAdd, Int.reduceSub, Int.reduceNeg, Int.reduceMul, Int.reduceEq, ← Bool.decide_and, ← Bool.decide_or, ↓tq_n, ↓tq_e, ↓tq_r, ↓bq_n, ↓bq_e, ↓bq_r, ↓rq_n, ↓rq_r, ↓rq_e]
  refine CallG.mk (r_decision_Valid d _) ?_
  by_cases c1 : dcOK d
  case neg =>
    simp only [decide_eq_false c1, F_decision_Ledger_Make, g_decision_Ledger_Make, go_sem, reduceIte, Nat.reduceEqDiff, Nat.reduceAdd, Nat.reduceMul, Nat.reduceSub, reduceCtorEq, Nat.reduceLeDiff, Nat.reduceLT, Int.reduceLT, Int.reduceLE, Int.reduceToNat, Int.reduceAdd, Int.reduceSub, Int.reduceNeg, Int.reduceMul, Int.reduceEq, ← Bool.decide_and, ← Bool.decide_or, ↓tq_n, ↓tq_e, ↓tq_r, ↓bq_n, ↓bq_e, ↓bq_r, ↓rq_n, ↓rq_r, ↓rq_e]
    exact ⟨_, _, RGh.refl _ _, by simp [mkL, c1], by simp [mkL, c1, hsame]⟩
  simp only [decide_eq_true c1, hb, Dec.cs, F_decision_Ledger_Make, g_decision_Ledger_Make, go_sem, reduceIte, Nat.reduceEqDiff, Nat.reduceAdd, Nat.reduceMul, Nat.reduceSub, reduceCtorEq, Nat.reduceLeDiff, Nat.reduceLT, Int.reduceLT, Int.reduceLE, Int.reduceToNat, Int.reduceAdd, Int.reduceSub, Int.reduceNeg, Int.reduceMul, Int.reduceEq, ← Bool.decide_and, ← Bool.decide_or, ↓tq_n, ↓tq_e, ↓tq_r, ↓bq_n, ↓bq_e, ↓bq_r, ↓rq_n, ↓rq_r, ↓rq_e]
  refine CallG.mk (r_decision_mark d _) ?_
  have hf := find_enD d.mk2 M
  simp only [hb, h1, F_decision_Ledger_Make, g_decision_Ledger_Make, go_sem, reduceIte, Nat.reduceEqDiff, Nat.reduceAdd, Nat.reduceMul, Nat.reduceSub, reduceCtorEq, Nat.reduceLeDiff, Nat.reduceLT, Int.reduceLT, Int.reduceLE, Int.reduceToNat, Int.reduceAdd, Int.reduceSub, Int.reduceNeg, Int.reduceMul, Int.reduceEq, ← Bool.decide_and, ← Bool.decide_or, ↓tq_n, ↓tq_e, ↓tq_r, ↓bq_n, ↓bq_e, ↓bq_r, ↓rq_n, ↓rq_r, ↓rq_e]
  refine FindG.mk hf ?_
  cases ho : M.find? fun x => decide (d.mk2 = x.mk2) with
  | some o =>
    by_cases c2 : o = d
    · subst c2
      simp only [Dec.cs, Option.isSome_some, Option.map_some, Option.getD_some, F_decision_Ledger_Make, g_decision_Ledger_Make, go_sem, reduceIte, Nat.reduceEqDiff, Nat.reduceAdd, Nat.reduceMul, Nat.reduceSub, reduceCtorEq, Nat.reduceLeDiff, Nat.reduceLT, Int.reduceLT, Int.reduceLE, Int.reduceToNat, Int.reduceAdd, Int.reduceSub, Int.reduceNeg, Int.reduceMul, Int.reduceEq, ← Bool.decide_and, ← Bool.decide_or, ↓tq_n, ↓tq_e, ↓tq_r, ↓bq_n, ↓bq_e, ↓bq_r, ↓rq_n, ↓rq_r, ↓rq_e]
      exact ⟨_, _, RGh.refl _ _, by simp [mkL, c1, ho], by simp [mkL, c1, ho, hsame]⟩
    · have c3 : ¬ (o.au = d.au ∧ o.nu = d.nu ∧ o.ki = d.ki ∧ o.a = d.a ∧ o.b = d.b) := fun hh => c2 (Dec.ext' hh)
      simp only [Dec.cs, eqCells, Option.isSome_some, Option.map_some, Option.getD_some, c3, F_decision_Ledger_Make, g_decision_Ledger_Make, go_sem, reduceIte, Nat.reduceEqDiff, Nat.reduceAdd, Nat.reduceMul, Nat.reduceSub, reduceCtorEq, Nat.reduceLeDiff, Nat.reduceLT, Int.reduceLT, Int.reduceLE, Int.reduceToNat, Int.reduceAdd, Int.reduceSub, Int.reduceNeg, Int.reduceMul, Int.reduceEq, ← Bool.decide_and, ← Bool.decide_or, ↓tq_n, ↓tq_e, ↓tq_r, ↓bq_n, ↓bq_e, ↓bq_r, ↓rq_n, ↓rq_r, ↓rq_e]
      exact ⟨_, _, RGh.refl _ _, by simp [mkL, c1, ho, c2], by simp [mkL, c1, ho, c2, hsame]⟩
  | none =>
    have hno : ∀ x ∈ M, x.mk2 ≠ d.mk2 := fun x hx hh => by
      have := List.find?_eq_none.1 ho x hx
      simp [hh] at this
    have hu := upd_enD hno
    by_cases c2 : 200 ≤ M.length
    · have c3 : (200 : Int) ≤ (M.length : Int) := by omega
      simp only [Option.isSome_none, Option.map_none, hb, h1, enD_len, decide_eq_true c3, F_decision_Ledger_Make, g_decision_Ledger_Make, go_sem, reduceIte, Nat.reduceEqDiff, Nat.reduceAdd, Nat.reduceMul, Nat.reduceSub, reduceCtorEq, Nat.reduceLeDiff, Nat.reduceLT, Int.reduceLT, Int.reduceLE, Int.reduceToNat, Int.reduceAdd, Int.reduceSub, Int.reduceNeg, Int.reduceMul, Int.reduceEq, ← Bool.decide_and, ← Bool.decide_or, ↓tq_n, ↓tq_e, ↓tq_r, ↓bq_n, ↓bq_e, ↓bq_r, ↓rq_n, ↓rq_r, ↓rq_e]
      exact ⟨by omega, _, _, RGh.refl _ _, by simp [mkL, c1, ho, c2], by simp [mkL, c1, ho, c2, hsame]⟩
    · have c3 : ¬ (200 : Int) ≤ (M.length : Int) := by omega
      simp only [Option.isSome_none, Option.map_none, hb, h1, enD_len, c3, decide_eq_false c3, F_decision_Ledger_Make, g_decision_Ledger_Make, go_sem, reduceIte, Nat.reduceEqDiff, Nat.reduceAdd, Nat.reduceMul, Nat.reduceSub, reduceCtorEq, Nat.reduceLeDiff, Nat.reduceLT, Int.reduceLT, Int.reduceLE, Int.reduceToNat, Int.reduceAdd, Int.reduceSub, Int.reduceNeg, Int.reduceMul, Int.reduceEq, ← Bool.decide_and, ← Bool.decide_or, ↓tq_n, ↓tq_e, ↓tq_r, ↓bq_n, ↓bq_e, ↓bq_r, ↓rq_n, ↓rq_r, ↓rq_e]
      refine ⟨by omega, CallG.mk (r_decision_mark d _) ?_⟩
      simp only [hb, h1, F_decision_Ledger_Make, g_decision_Ledger_Make, go_sem, reduceIte, Nat.reduceEqDiff, Nat.reduceAdd, Nat.reduceMul, Nat.reduceSub, reduceCtorEq, Nat.reduceLeDiff, Nat.reduceLT, Int.reduceLT, Int.reduceLE, Int.reduceToNat, Int.reduceAdd, Int.reduceSub, Int.reduceNeg, Int.reduceMul, Int.reduceEq, ← Bool.decide_and, ← Bool.decide_or, ↓tq_n, ↓tq_e, ↓tq_r, ↓bq_n, ↓bq_e, ↓bq_r, ↓rq_n, ↓rq_r, ↓rq_e]
      refine MapG.mk hu ?_
      simp only [F_decision_Ledger_Make, g_decision_Ledger_Make, go_sem, reduceIte, Nat.reduceEqDiff, Nat.reduceAdd, Nat.reduceMul, Nat.reduceSub, reduceCtorEq, Nat.reduceLeDiff, Nat.reduceLT, Int.reduceLT, Int.reduceLE, Int.reduceToNat, Int.reduceAdd, Int.reduceSub, Int.reduceNeg, Int.reduceMul, Int.reduceEq, ← Bool.decide_and, ← Bool.decide_or, ↓tq_n, ↓tq_e, ↓tq_r, ↓bq_n, ↓bq_e, ↓bq_r, ↓rq_n, ↓rq_r, ↓rq_e]
      exact ⟨_, _, RGh.refl _ _, by simp [mkL, c1, ho, c2], by simp [mkL, c1, ho, c2]⟩
set_option maxHeartbeats 1000000 in
theorem r_decision_Ledger_Withdraw (lb b1 b2 : Nat) (W : List (Int × Int)) (m : Int × Int) (hl : W.length ≤ 200) (h : AH) (hb : h.blk lb = some [.map b1, .map b2]) (h2 : h.mp b2 = some (enM W)) :
    ACalls Try.prog n_decision_Ledger_Withdraw [.ptr lb 0, stM m] h fun r h' => r = I (wdL W m).1 ∧ h' = h.putM b2 (enM (wdL W m).2) := by
  refine ACalls.of hm cF_decision_Ledger_Withdraw (by simp [g_decision_Ledger_Withdraw]) fun hw => ?_
  have hsame := AH.putM_same h2
  simp only [F_decision_Ledger_Withdraw, g_decision_Ledger_Withdraw, go_sem, reduceIte, Nat.reduceEqDiff, Nat.reduceAdd, Nat.reduceMul, Nat.reduceSub, reduceCtorEq, Nat.reduceLeDiff, Nat.reduceLT, Int.reduceLT, Int.reduceLE, Int.reduceToNat, Int.reduceAdd, Int.reduceSub, Int.reduceNeg, Int.reduceMul, Int.reduceEq, ← Bool.decide_and, ← Bool.decide_or, ↓tq_n, ↓tq_e, ↓tq_r, ↓bq_n, ↓bq_e, ↓bq_r, ↓rq_n, ↓rq_r, ↓rq_e]
  refine CallG.mk (r_decision_validMark m _) ?_
  by_cases c1 : mkOK m
  case neg =>
    simp only [decide_eq_false c1, F_decision_Ledger_Withdraw, g_decision_Ledger_Withdraw, go_sem, reduceIte, Nat.reduceEqDiff, Nat.reduceAdd, Nat.reduceMul, Nat.reduceSub, reduceCtorEq, Nat.reduceLeDiff, Nat.reduceLT, Int.reduceLT, Int.reduceLE, Int.reduceToNat, Int.reduceAdd, Int.reduceSub, Int.reduceNeg, Int.reduceMul, Int.reduceEq, ← Bool.decide_and, ← Bool.decide_or, ↓tq_n, ↓tq_e, ↓tq_r, ↓bq_n, ↓bq_e, ↓bq_r, ↓rq_n, ↓rq_r, ↓rq_e]
    exact ⟨_, _, RGh.refl _ _, by simp [wdL, c1], by simp [wdL, c1, hsame]⟩
  have hf := find_enM m W
  simp only [decide_eq_true c1, hb, h2, F_decision_Ledger_Withdraw, g_decision_Ledger_Withdraw, go_sem, reduceIte, Nat.reduceEqDiff, Nat.reduceAdd, Nat.reduceMul, Nat.reduceSub, reduceCtorEq, Nat.reduceLeDiff, Nat.reduceLT, Int.reduceLT, Int.reduceLE, Int.reduceToNat, Int.reduceAdd, Int.reduceSub, Int.reduceNeg, Int.reduceMul, Int.reduceEq, ← Bool.decide_and, ← Bool.decide_or, ↓tq_n, ↓tq_e, ↓tq_r, ↓bq_n, ↓bq_e, ↓bq_r, ↓rq_n, ↓rq_r, ↓rq_e]
  refine FindG.mk hf ?_
  by_cases c2 : m ∈ W
  · rw [if_pos c2]
    simp only [Option.getD_some, F_decision_Ledger_Withdraw, g_decision_Ledger_Withdraw, go_sem, reduceIte, Nat.reduceEqDiff, Nat.reduceAdd, Nat.reduceMul, Nat.reduceSub, reduceCtorEq, Nat.reduceLeDiff, Nat.reduceLT, Int.reduceLT, Int.reduceLE, Int.reduceToNat, Int.reduceAdd, Int.reduceSub, Int.reduceNeg, Int.reduceMul, Int.reduceEq, ← Bool.decide_and, ← Bool.decide_or, ↓tq_n, ↓tq_e, ↓tq_r, ↓bq_n, ↓bq_e, ↓bq_r, ↓rq_n, ↓rq_r, ↓rq_e]
    exact ⟨_, _, RGh.refl _ _, by simp [wdL, c1, c2], by simp [wdL, c1, c2, hsame]⟩
  rw [if_neg c2]
  have hu := upd_enM c2
  by_cases c3 : 200 ≤ W.length
  · have c4 : (200 : Int) ≤ (W.length : Int) := by omega
    simp only [Option.getD_none, hb, h2, enM_len, decide_eq_true c4, F_decision_Ledger_Withdraw, g_decision_Ledger_Withdraw, go_sem, reduceIte, Nat.reduceEqDiff, Nat.reduceAdd, Nat.reduceMul, Nat.reduceSub, reduceCtorEq, Nat.reduceLeDiff, Nat.reduceLT, Int.reduceLT, Int.reduceLE, Int.reduceToNat, Int.reduceAdd, Int.reduceSub, Int.reduceNeg, Int.reduceMul, Int.reduceEq, ← Bool.decide_and, ← Bool.decide_or, ↓tq_n, ↓tq_e, ↓tq_r, ↓bq_n, ↓bq_e, ↓bq_r, ↓rq_n, ↓rq_r, ↓rq_e]
    exact ⟨by omega, _, _, RGh.refl _ _, by simp [wdL, c1, c2, c3], by simp [wdL, c1, c2, c3, hsame]⟩
  · have c4 : ¬ (200 : Int) ≤ (W.length : Int) := by omega
    simp only [Option.getD_none, hb, h2, enM_len, c4, decide_eq_false c4, F_decision_Ledger_Withdraw, g_decision_Ledger_Withdraw, go_sem, reduceIte, Nat.reduceEqDiff, Nat.reduceAdd, Nat.reduceMul, Nat.reduceSub, reduceCtorEq, Nat.reduceLeDiff, Nat.reduceLT, Int.reduceLT, Int.reduceLE, Int.reduceToNat, Int.reduceAdd, Int.reduceSub, Int.reduceNeg, Int.reduceMul, Int.reduceEq, ← Bool.decide_and, ← Bool.decide_or, ↓tq_n, ↓tq_e, ↓tq_r, ↓bq_n, ↓bq_e, ↓bq_r, ↓rq_n, ↓rq_r, ↓rq_e]
    refine ⟨by omega, MapG.mk hu ?_⟩
    simp only [F_decision_Ledger_Withdraw, g_decision_Ledger_Withdraw, go_sem, reduceIte, Nat.reduceEqDiff, Nat.reduceAdd, Nat.reduceMul, Nat.reduceSub, reduceCtorEq, Nat.reduceLeDiff, Nat.reduceLT, Int.reduceLT, Int.reduceLE, Int.reduceToNat, Int.reduceAdd, Int.reduceSub, Int.reduceNeg, Int.reduceMul, Int.reduceEq, ← Bool.decide_and, ← Bool.decide_or, ↓tq_n, ↓tq_e, ↓tq_r, ↓bq_n, ↓bq_e, ↓bq_r, ↓rq_n, ↓rq_r, ↓rq_e]
    exact ⟨_, _, RGh.refl _ _, by simp [wdL, c1, c2, c3], by simp [wdL, c1, c2, c3]⟩
end Go.Proofs.Ytcnmodnafnadlaa
