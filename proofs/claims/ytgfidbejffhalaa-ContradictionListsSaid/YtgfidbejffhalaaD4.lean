/- Calls of functions of this seat's program: sets, minimal sets, what is kept. No condition. -/
import Derived.Test.YtgfidbejffhalaaD3
namespace Go.Proofs.Ytgfidbejffhalaa
open Go Go.Abs
set_option linter.unusedSimpArgs false
set_option linter.unusedVariables false
set_option maxRecDepth 20000

theorem ev_nat {n : Int} {a : List (Int × Int)} (h : Ev n a) : ∃ m : Nat, n = m := ⟨n.toNat, by have := h.1; omega⟩
def isB (n : Int) (a : List (Int × Int)) (s : List Int) : Bool := decide (Ev n a ∧ Ix a.length s) && cyB n.toNat (sub a s)
def agB (n : Int) (a : List (Int × Int)) (s : List Int) : Bool := decide (Ev n a ∧ Ix a.length s) && !cyB n.toNat (sub a s)
theorem isB_no {n : Int} {a : List (Int × Int)} {s : List Int} (h : ¬ (Ev n a ∧ Ix a.length s)) : isB n a s = false ∧ agB n a s = false := by
  unfold isB agB
  rw [decide_eq_false h]
  exact ⟨rfl, rfl⟩
theorem isB_yes {n : Nat} {a : List (Int × Int)} {s : List Int} (h : Ev n a) (h2 : Ix a.length s) : isB n a s = cyB n (sub a s) ∧ agB n a s = !cyB n (sub a s) := by
  unfold isB agB
  rw [decide_eq_true ⟨h, h2⟩]
  simp
theorem r_contradiction_Is (n : Int) (n1 : Bool) (a : List (Int × Int)) (u1 : Tail) (n2 : Bool) (s : List Int) (u2 : Tail) (h : AH) :
    RCall Try.prog n_contradiction_Is [I n, .sl n1 a.length (prs a) u1, .sl n2 s.length (i64s s) u2] h (.bool (isB n a s)) := by
  refine RCall.of hm cF_contradiction_Is (by simp [g_contradiction_Is]) fun hw h' hl => ?_
  simp only [F_contradiction_Is, g_contradiction_Is, go_sem, reduceIte, Nat.reduceEqDiff, Nat.reduceAdd, Nat.reduceMul, Nat.reduceSub, reduceCtorEq, Nat.reduceLeDiff, Nat.reduceLT, Int.reduceLT, Int.reduceLE, Int.reduceToNat, Int.reduceAdd, Int.reduceSub, Int.reduceNeg, Int.reduceMul, Int.reduceEq, ← Bool.decide_and, ← Bool.decide_or, ↓tq_n, ↓tq_e, ↓tq_r, ↓bq_n, ↓bq_e, ↓bq_r, ↓rq_n, ↓rq_r, ↓rq_e]
  refine CallG.mk (r_contradiction_Valid n n1 a u1 _) ?_
  by_cases h1 : Ev n a
  case neg =>
    rw [decide_eq_false h1]
    simp only [F_contradiction_Is, g_contradiction_Is, go_sem, reduceIte, Nat.reduceEqDiff, Nat.reduceAdd, Nat.reduceMul, Nat.reduceSub, reduceCtorEq, Nat.reduceLeDiff, Nat.reduceLT, Int.reduceLT, Int.reduceLE, Int.reduceToNat, Int.reduceAdd, Int.reduceSub, Int.reduceNeg, Int.reduceMul, Int.reduceEq, ← Bool.decide_and, ← Bool.decide_or, ↓tq_n, ↓tq_e, ↓tq_r, ↓bq_n, ↓bq_e, ↓bq_r, ↓rq_n, ↓rq_r, ↓rq_e]
    exact ret_ok (by rw [(isB_no (fun hh => h1 hh.1)).1])
  rw [decide_eq_true h1]
  simp only [F_contradiction_Is, g_contradiction_Is, go_sem, reduceIte, Nat.reduceEqDiff, Nat.reduceAdd, Nat.reduceMul, Nat.reduceSub, reduceCtorEq, Nat.reduceLeDiff, Nat.reduceLT, Int.reduceLT, Int.reduceLE, Int.reduceToNat, Int.reduceAdd, Int.reduceSub, Int.reduceNeg, Int.reduceMul, Int.reduceEq, ← Bool.decide_and, ← Bool.decide_or, ↓tq_n, ↓tq_e, ↓tq_r, ↓bq_n, ↓bq_e, ↓bq_r, ↓rq_n, ↓rq_r, ↓rq_e]
  refine CallG.mk (r_contradiction_valid n2 s u2 a.length _) ?_
  by_cases h2 : Ix a.length s
  case neg =>
    rw [decide_eq_false h2]
    simp only [F_contradiction_Is, g_contradiction_Is, go_sem, reduceIte, Nat.reduceEqDiff, Nat.reduceAdd, Nat.reduceMul, Nat.reduceSub, reduceCtorEq, Nat.reduceLeDiff, Nat.reduceLT, Int.reduceLT, Int.reduceLE, Int.reduceToNat, Int.reduceAdd, Int.reduceSub, Int.reduceNeg, Int.reduceMul, Int.reduceEq, ← Bool.decide_and, ← Bool.decide_or, ↓tq_n, ↓tq_e, ↓tq_r, ↓bq_n, ↓bq_e, ↓bq_r, ↓rq_n, ↓rq_r, ↓rq_e]
    exact ret_ok (by rw [(isB_no (fun hh => h2 hh.2)).1])
  rw [decide_eq_true h2]
  obtain ⟨m, rfl⟩ := ev_nat h1
  simp only [F_contradiction_Is, g_contradiction_Is, go_sem, reduceIte, Nat.reduceEqDiff, Nat.reduceAdd, Nat.reduceMul, Nat.reduceSub, reduceCtorEq, Nat.reduceLeDiff, Nat.reduceLT, Int.reduceLT, Int.reduceLE, Int.reduceToNat, Int.reduceAdd, Int.reduceSub, Int.reduceNeg, Int.reduceMul, Int.reduceEq, ← Bool.decide_and, ← Bool.decide_or, ↓tq_n, ↓tq_e, ↓tq_r, ↓bq_n, ↓bq_e, ↓bq_r, ↓rq_n, ↓rq_r, ↓rq_e]
  refine CallG.mk (r_contradiction_clashes m n1 a u1 h1 n2 s u2 h2 _) ?_
  simp only [F_contradiction_Is, g_contradiction_Is, go_sem, reduceIte, Nat.reduceEqDiff, Nat.reduceAdd, Nat.reduceMul, Nat.reduceSub, reduceCtorEq, Nat.reduceLeDiff, Nat.reduceLT, Int.reduceLT, Int.reduceLE, Int.reduceToNat, Int.reduceAdd, Int.reduceSub, Int.reduceNeg, Int.reduceMul, Int.reduceEq, ← Bool.decide_and, ← Bool.decide_or, ↓tq_n, ↓tq_e, ↓tq_r, ↓bq_n, ↓bq_e, ↓bq_r, ↓rq_n, ↓rq_r, ↓rq_e]
  exact ret_ok (by rw [(isB_yes h1 h2).1])
theorem r_contradiction_Agrees (n : Int) (n1 : Bool) (a : List (Int × Int)) (u1 : Tail) (n2 : Bool) (s : List Int) (u2 : Tail) (h : AH) :
    RCall Try.prog n_contradiction_Agrees [I n, .sl n1 a.length (prs a) u1, .sl n2 s.length (i64s s) u2] h (.bool (agB n a s)) := by
  refine RCall.of hm cF_contradiction_Agrees (by simp [g_contradiction_Agrees]) fun hw h' hl => ?_
  simp only [F_contradiction_Agrees, g_contradiction_Agrees, go_sem, reduceIte, Nat.reduceEqDiff, Nat.reduceAdd, Nat.reduceMul, Nat.reduceSub, reduceCtorEq, Nat.reduceLeDiff, Nat.reduceLT, Int.reduceLT, Int.reduceLE, Int.reduceToNat, Int.reduceAdd, Int.reduceSub, Int.reduceNeg, Int.reduceMul, Int.reduceEq, ← Bool.decide_and, ← Bool.decide_or, ↓tq_n, ↓tq_e, ↓tq_r, ↓bq_n, ↓bq_e, ↓bq_r, ↓rq_n, ↓rq_r, ↓rq_e]
  refine CallG.mk (r_contradiction_Valid n n1 a u1 _) ?_
  by_cases h1 : Ev n a
  case neg =>
    rw [decide_eq_false h1]
    simp only [F_contradiction_Agrees, g_contradiction_Agrees, go_sem, reduceIte, Nat.reduceEqDiff, Nat.reduceAdd, Nat.reduceMul, Nat.reduceSub, reduceCtorEq, Nat.reduceLeDiff, Nat.reduceLT, Int.reduceLT, Int.reduceLE, Int.reduceToNat, Int.reduceAdd, Int.reduceSub, Int.reduceNeg, Int.reduceMul, Int.reduceEq, ← Bool.decide_and, ← Bool.decide_or, ↓tq_n, ↓tq_e, ↓tq_r, ↓bq_n, ↓bq_e, ↓bq_r, ↓rq_n, ↓rq_r, ↓rq_e]
    exact ret_ok (by rw [(isB_no (fun hh => h1 hh.1)).2])
  rw [decide_eq_true h1]
  simp only [F_contradiction_Agrees, g_contradiction_Agrees, go_sem, reduceIte, Nat.reduceEqDiff, Nat.reduceAdd, Nat.reduceMul, Nat.reduceSub, reduceCtorEq, Nat.reduceLeDiff, Nat.reduceLT, Int.reduceLT, Int.reduceLE, Int.reduceToNat, Int.reduceAdd, Int.reduceSub, Int.reduceNeg, Int.reduceMul, Int.reduceEq, ← Bool.decide_and, ← Bool.decide_or, ↓tq_n, ↓tq_e, ↓tq_r, ↓bq_n, ↓bq_e, ↓bq_r, ↓rq_n, ↓rq_r, ↓rq_e]
  refine CallG.mk (r_contradiction_valid n2 s u2 a.length _) ?_
  by_cases h2 : Ix a.length s
  case neg =>
    rw [decide_eq_false h2]
    simp only [F_contradiction_Agrees, g_contradiction_Agrees, go_sem, reduceIte, Nat.reduceEqDiff, Nat.reduceAdd, Nat.reduceMul, Nat.reduceSub, reduceCtorEq, Nat.reduceLeDiff, Nat.reduceLT, Int.reduceLT, Int.reduceLE, Int.reduceToNat, Int.reduceAdd, Int.reduceSub, Int.reduceNeg, Int.reduceMul, Int.reduceEq, ← Bool.decide_and, ← Bool.decide_or, ↓tq_n, ↓tq_e, ↓tq_r, ↓bq_n, ↓bq_e, ↓bq_r, ↓rq_n, ↓rq_r, ↓rq_e]
    exact ret_ok (by rw [(isB_no (fun hh => h2 hh.2)).2])
  rw [decide_eq_true h2]
  obtain ⟨m, rfl⟩ := ev_nat h1
  simp only [F_contradiction_Agrees, g_contradiction_Agrees, go_sem, reduceIte, Nat.reduceEqDiff, Nat.reduceAdd, Nat.reduceMul, Nat.reduceSub, reduceCtorEq, Nat.reduceLeDiff, Nat.reduceLT, Int.reduceLT, Int.reduceLE, Int.reduceToNat, Int.reduceAdd, Int.reduceSub, Int.reduceNeg, Int.reduceMul, Int.reduceEq, ← Bool.decide_and, ← Bool.decide_or, ↓tq_n, ↓tq_e, ↓tq_r, ↓bq_n, ↓bq_e, ↓bq_r, ↓rq_n, ↓rq_r, ↓rq_e]
  refine CallG.mk (r_contradiction_clashes m n1 a u1 h1 n2 s u2 h2 _) ?_
  simp only [F_contradiction_Agrees, g_contradiction_Agrees, go_sem, reduceIte, Nat.reduceEqDiff, Nat.reduceAdd, Nat.reduceMul, Nat.reduceSub, reduceCtorEq, Nat.reduceLeDiff, Nat.reduceLT, Int.reduceLT, Int.reduceLE, Int.reduceToNat, Int.reduceAdd, Int.reduceSub, Int.reduceNeg, Int.reduceMul, Int.reduceEq, ← Bool.decide_and, ← Bool.decide_or, ↓tq_n, ↓tq_e, ↓tq_r, ↓bq_n, ↓bq_e, ↓bq_r, ↓rq_n, ↓rq_r, ↓rq_e]
  exact ret_ok (by rw [(isB_yes h1 h2).2])
theorem r_ref_Is (n : Int) (n1 : Bool) (a : List (Int × Int)) (u1 : Tail) (n2 : Bool) (s : List Int) (u2 : Tail) (h : AH) :
    RCall Try.prog n_ref_Is [I n, .sl n1 a.length (prs a) u1, .sl n2 s.length (i64s s) u2] h (.bool (isB n a s)) := by
  refine RCall.of hm cF_ref_Is (by simp [g_ref_Is]) fun hw h' hl => ?_
  simp only [F_ref_Is, g_ref_Is, go_sem, reduceIte, Nat.reduceEqDiff, Nat.reduceAdd, Nat.reduceMul, Nat.reduceSub, reduceCtorEq, Nat.reduceLeDiff, Nat.reduceLT, Int.reduceLT, Int.reduceLE, Int.reduceToNat, Int.reduceAdd, Int.reduceSub, Int.reduceNeg, Int.reduceMul, Int.reduceEq, ← Bool.decide_and, ← Bool.decide_or, ↓tq_n, ↓tq_e, ↓tq_r, ↓bq_n, ↓bq_e, ↓bq_r, ↓rq_n, ↓rq_r, ↓rq_e]
  refine CallG.mk (r_ref_Valid n n1 a u1 _) ?_
  by_cases h1 : Ev n a
  case neg =>
    rw [decide_eq_false h1]
    simp only [F_ref_Is, g_ref_Is, go_sem, reduceIte, Nat.reduceEqDiff, Nat.reduceAdd, Nat.reduceMul, Nat.reduceSub, reduceCtorEq, Nat.reduceLeDiff, Nat.reduceLT, Int.reduceLT, Int.reduceLE, Int.reduceToNat, Int.reduceAdd, Int.reduceSub, Int.reduceNeg, Int.reduceMul, Int.reduceEq, ← Bool.decide_and, ← Bool.decide_or, ↓tq_n, ↓tq_e, ↓tq_r, ↓bq_n, ↓bq_e, ↓bq_r, ↓rq_n, ↓rq_r, ↓rq_e]
    exact ret_ok (by rw [(isB_no (fun hh => h1 hh.1)).1])
  rw [decide_eq_true h1]
  simp only [F_ref_Is, g_ref_Is, go_sem, reduceIte, Nat.reduceEqDiff, Nat.reduceAdd, Nat.reduceMul, Nat.reduceSub, reduceCtorEq, Nat.reduceLeDiff, Nat.reduceLT, Int.reduceLT, Int.reduceLE, Int.reduceToNat, Int.reduceAdd, Int.reduceSub, Int.reduceNeg, Int.reduceMul, Int.reduceEq, ← Bool.decide_and, ← Bool.decide_or, ↓tq_n, ↓tq_e, ↓tq_r, ↓bq_n, ↓bq_e, ↓bq_r, ↓rq_n, ↓rq_r, ↓rq_e]
  refine CallG.mk (r_ref_Set n1 a u1 n2 s u2 _) ?_
  by_cases h2 : Ix a.length s
  case neg =>
    rw [decide_eq_false h2]
    simp only [F_ref_Is, g_ref_Is, go_sem, reduceIte, Nat.reduceEqDiff, Nat.reduceAdd, Nat.reduceMul, Nat.reduceSub, reduceCtorEq, Nat.reduceLeDiff, Nat.reduceLT, Int.reduceLT, Int.reduceLE, Int.reduceToNat, Int.reduceAdd, Int.reduceSub, Int.reduceNeg, Int.reduceMul, Int.reduceEq, ← Bool.decide_and, ← Bool.decide_or, ↓tq_n, ↓tq_e, ↓tq_r, ↓bq_n, ↓bq_e, ↓bq_r, ↓rq_n, ↓rq_r, ↓rq_e]
    exact ret_ok (by rw [(isB_no (fun hh => h2 hh.2)).1])
  rw [decide_eq_true h2]
  obtain ⟨m, rfl⟩ := ev_nat h1
  simp only [F_ref_Is, g_ref_Is, go_sem, reduceIte, Nat.reduceEqDiff, Nat.reduceAdd, Nat.reduceMul, Nat.reduceSub, reduceCtorEq, Nat.reduceLeDiff, Nat.reduceLT, Int.reduceLT, Int.reduceLE, Int.reduceToNat, Int.reduceAdd, Int.reduceSub, Int.reduceNeg, Int.reduceMul, Int.reduceEq, ← Bool.decide_and, ← Bool.decide_or, ↓tq_n, ↓tq_e, ↓tq_r, ↓bq_n, ↓bq_e, ↓bq_r, ↓rq_n, ↓rq_r, ↓rq_e]
  refine CallG.mk (r_ref_Cyclic m n1 a u1 h1 n2 s u2 h2 _) ?_
  simp only [F_ref_Is, g_ref_Is, go_sem, reduceIte, Nat.reduceEqDiff, Nat.reduceAdd, Nat.reduceMul, Nat.reduceSub, reduceCtorEq, Nat.reduceLeDiff, Nat.reduceLT, Int.reduceLT, Int.reduceLE, Int.reduceToNat, Int.reduceAdd, Int.reduceSub, Int.reduceNeg, Int.reduceMul, Int.reduceEq, ← Bool.decide_and, ← Bool.decide_or, ↓tq_n, ↓tq_e, ↓tq_r, ↓bq_n, ↓bq_e, ↓bq_r, ↓rq_n, ↓rq_r, ↓rq_e]
  exact ret_ok (by rw [(isB_yes h1 h2).1])
theorem r_ref_Agrees (n : Int) (n1 : Bool) (a : List (Int × Int)) (u1 : Tail) (n2 : Bool) (s : List Int) (u2 : Tail) (h : AH) :
    RCall Try.prog n_ref_Agrees [I n, .sl n1 a.length (prs a) u1, .sl n2 s.length (i64s s) u2] h (.bool (agB n a s)) := by
  refine RCall.of hm cF_ref_Agrees (by simp [g_ref_Agrees]) fun hw h' hl => ?_
  simp only [F_ref_Agrees, g_ref_Agrees, go_sem, reduceIte, Nat.reduceEqDiff, Nat.reduceAdd, Nat.reduceMul, Nat.reduceSub, reduceCtorEq, Nat.reduceLeDiff, Nat.reduceLT, Int.reduceLT, Int.reduceLE, Int.reduceToNat, Int.reduceAdd, Int.reduceSub, Int.reduceNeg, Int.reduceMul, Int.reduceEq, ← Bool.decide_and, ← Bool.decide_or, ↓tq_n, ↓tq_e, ↓tq_r, ↓bq_n, ↓bq_e, ↓bq_r, ↓rq_n, ↓rq_r, ↓rq_e]
  refine CallG.mk (r_ref_Valid n n1 a u1 _) ?_
  by_cases h1 : Ev n a
  case neg =>
    rw [decide_eq_false h1]
    simp only [F_ref_Agrees, g_ref_Agrees, go_sem, reduceIte, Nat.reduceEqDiff, Nat.reduceAdd, Nat.reduceMul, Nat.reduceSub, reduceCtorEq, Nat.reduceLeDiff, Nat.reduceLT, Int.reduceLT, Int.reduceLE, Int.reduceToNat, Int.reduceAdd, Int.reduceSub, Int.reduceNeg, Int.reduceMul, Int.reduceEq, ← Bool.decide_and, ← Bool.decide_or, ↓tq_n, ↓tq_e, ↓tq_r, ↓bq_n, ↓bq_e, ↓bq_r, ↓rq_n, ↓rq_r, ↓rq_e]
    exact ret_ok (by rw [(isB_no (fun hh => h1 hh.1)).2])
  rw [decide_eq_true h1]
  simp only [F_ref_Agrees, g_ref_Agrees, go_sem, reduceIte, Nat.reduceEqDiff, Nat.reduceAdd, Nat.reduceMul, Nat.reduceSub, reduceCtorEq, Nat.reduceLeDiff, Nat.reduceLT, Int.reduceLT, Int.reduceLE, Int.reduceToNat, Int.reduceAdd, Int.reduceSub, Int.reduceNeg, Int.reduceMul, Int.reduceEq, ← Bool.decide_and, ← Bool.decide_or, ↓tq_n, ↓tq_e, ↓tq_r, ↓bq_n, ↓bq_e, ↓bq_r, ↓rq_n, ↓rq_r, ↓rq_e]
  refine CallG.mk (r_ref_Set n1 a u1 n2 s u2 _) ?_
  by_cases h2 : Ix a.length s
  case neg =>
    rw [decide_eq_false h2]
    simp only [F_ref_Agrees, g_ref_Agrees, go_sem, reduceIte, Nat.reduceEqDiff, Nat.reduceAdd, Nat.reduceMul, Nat.reduceSub, reduceCtorEq, Nat.reduceLeDiff, Nat.reduceLT, Int.reduceLT, Int.reduceLE, Int.reduceToNat, Int.reduceAdd, Int.reduceSub, Int.reduceNeg, Int.reduceMul, Int.reduceEq, ← Bool.decide_and, ← Bool.decide_or, ↓tq_n, ↓tq_e, ↓tq_r, ↓bq_n, ↓bq_e, ↓bq_r, ↓rq_n, ↓rq_r, ↓rq_e]
    exact ret_ok (by rw [(isB_no (fun hh => h2 hh.2)).2])
  rw [decide_eq_true h2]
  obtain ⟨m, rfl⟩ := ev_nat h1
  simp only [F_ref_Agrees, g_ref_Agrees, go_sem, reduceIte, Nat.reduceEqDiff, Nat.reduceAdd, Nat.reduceMul, Nat.reduceSub, reduceCtorEq, Nat.reduceLeDiff, Nat.reduceLT, Int.reduceLT, Int.reduceLE, Int.reduceToNat, Int.reduceAdd, Int.reduceSub, Int.reduceNeg, Int.reduceMul, Int.reduceEq, ← Bool.decide_and, ← Bool.decide_or, ↓tq_n, ↓tq_e, ↓tq_r, ↓bq_n, ↓bq_e, ↓bq_r, ↓rq_n, ↓rq_r, ↓rq_e]
  refine CallG.mk (r_ref_Cyclic m n1 a u1 h1 n2 s u2 h2 _) ?_
  simp only [F_ref_Agrees, g_ref_Agrees, go_sem, reduceIte, Nat.reduceEqDiff, Nat.reduceAdd, Nat.reduceMul, Nat.reduceSub, reduceCtorEq, Nat.reduceLeDiff, Nat.reduceLT, Int.reduceLT, Int.reduceLE, Int.reduceToNat, Int.reduceAdd, Int.reduceSub, Int.reduceNeg, Int.reduceMul, Int.reduceEq, ← Bool.decide_and, ← Bool.decide_or, ↓tq_n, ↓tq_e, ↓tq_r, ↓bq_n, ↓bq_e, ↓bq_r, ↓rq_n, ↓rq_r, ↓rq_e]
  exact ret_ok (by rw [(isB_yes h1 h2).2])

/-- A set of indices: in order, and below a number. -/
theorem ix_pw {k : Int} {s : List Int} : Ix k s ↔ (∀ x ∈ s, 0 ≤ x ∧ x < k) ∧ s.Pairwise (· < ·) := by
  constructor
  · intro h
    refine ⟨fun x hx => ?_, ?_⟩
    · obtain ⟨j, hj, e⟩ := List.getElem_of_mem hx
      have := (h j hj).1
      rw [show s.getD j 0 = x by simp [List.getD, hj, e]] at this
      exact this
    · rw [List.pairwise_iff_getElem]
      have key : ∀ d i, i + d < s.length → 0 < d → s.getD i 0 < s.getD (i + d) 0 := by
        intro d
        induction d with
        | zero => intro i _ h0; omega
        | succ d ih =>
          intro i hi _
          have h2 := (h (i + d + 1) (by omega)).2 (by omega)
          rw [Nat.add_sub_cancel] at h2
          rcases Nat.eq_zero_or_pos d with rfl | hd
          · exact h2
          · exact Int.lt_trans (ih i (by omega) hd) h2
      intro i j hi hj hij
      have := key (j - i) i (by omega) (by omega)
      rw [show i + (j - i) = j by omega] at this
      simpa [List.getD, hi, hj] using this
  · rintro ⟨h1, h2⟩ i hi
    refine ⟨h1 _ (mem_getD hi), fun h0 => ?_⟩
    have := (List.pairwise_iff_getElem.1 h2) (i - 1) i (by omega) hi (by omega)
    simpa [List.getD, hi, show i - 1 < s.length by omega] using this
theorem ix_sub {k : Int} {s t : List Int} (h : Ix k s) (ht : t.Sublist s) : Ix k t := by
  rw [ix_pw] at *
  exact ⟨fun x hx => h.1 x (ht.subset hx), h.2.sublist ht⟩
theorem ix_erase {k : Int} {s : List Int} (h : Ix k s) (i : Nat) : Ix k (s.eraseIdx i) := ix_sub h (List.eraseIdx_sublist s i)
theorem ix_snoc {k : Nat} {K : Int} {s : List Int} (h : Ix (k : Int) s) (hk : (k : Int) < K) : Ix K (s ++ [(k : Int)]) := by
  rw [ix_pw] at *
  refine ⟨fun x hx => ?_, ?_⟩
  · rw [List.mem_append, List.mem_singleton] at hx
    rcases hx with hx | rfl
    · have := h.1 x hx; omega
    · omega
  · rw [List.pairwise_append]
    refine ⟨h.2, by simp, fun x hx y hy => ?_⟩
    rw [List.mem_singleton] at hy
    subst hy
    exact (h.1 x hx).2
theorem ix_mono {k K : Int} {s : List Int} (h : Ix k s) (hk : k ≤ K) : Ix K s := by
  rw [ix_pw] at *
  exact ⟨fun x hx => by have := h.1 x hx; omega, h.2⟩

/-- A nil slice has no element. -/
theorem RCall.nil_vac {P : Program} {f : FuncId} {pre post : List AV} {n : Nat} {cells : List AV} {tl : Tail} {h : AH} {v : AV} (hok : callOK P f = true) (hn : 0 < n) : RCall P f (pre ++ .sl true n cells tl :: post) h v := by
  intro h' hl
  refine ⟨hok, fun s vs w hv hs => ?_⟩
  obtain ⟨u, h1, h2⟩ := hv.at_ (j := pre.length) (x := .sl true n cells tl) (by simp)
  exfalso
  cases h2 with
  | sl nl n cells tl a cap vs a1 a2 a3 a4 a5 a6 a7 a8 a9 =>
    cases a with
    | none => have := (a5 rfl).1; omega
    | some ad => cases a4
theorem s_slices_Clone_int (nl : Bool) (xs : List Int) (tl : Tail) (hnl : nl = false) (h1 : 1 ≤ xs.length) (hl1 : xs.length ≤ 1000) (h : AH) :
    ACalls Try.prog n_slices_Clone_int [.sl nl xs.length (i64s xs) tl] h fun r h' => ∃ b q, xs.length ≤ q ∧ h.blk b = none ∧ r = .msl b 0 xs.length (some q) ∧ h' = h.put b (i64s xs ++ List.replicate (q - xs.length) .undef) := by
  subst hnl
  refine ACalls.of hm cF_slices_Clone_int (by simp [g_slices_Clone_int]) fun hw => ?_
  simp only [F_slices_Clone_int, g_slices_Clone_int, go_sem, reduceIte, Nat.reduceEqDiff, Nat.reduceAdd, Nat.reduceMul, Nat.reduceSub, reduceCtorEq, Nat.reduceLeDiff, Nat.reduceLT, Int.reduceLT, Int.reduceLE, Int.reduceToNat, Int.reduceAdd, Int.reduceSub, Int.reduceNeg, Int.reduceMul, Int.reduceEq, ← Bool.decide_and, ← Bool.decide_or, ↓tq_n, ↓tq_e, ↓tq_r, ↓bq_n, ↓bq_e, ↓bq_r, ↓rq_n, ↓rq_r, ↓rq_e]
  refine ⟨i64s_len _, by omega, by omega, by omega, GrowG.mk fun b q hq hb => ?_⟩
  simp only [F_slices_Clone_int, g_slices_Clone_int, go_sem, reduceIte, Nat.reduceEqDiff, Nat.reduceAdd, Nat.reduceMul, Nat.reduceSub, reduceCtorEq, Nat.reduceLeDiff, Nat.reduceLT, Int.reduceLT, Int.reduceLE, Int.reduceToNat, Int.reduceAdd, Int.reduceSub, Int.reduceNeg, Int.reduceMul, Int.reduceEq, ← Bool.decide_and, ← Bool.decide_or, ↓tq_n, ↓tq_e, ↓tq_r, ↓bq_n, ↓bq_e, ↓bq_r, ↓rq_n, ↓rq_r, ↓rq_e]
  exact ⟨_, _, .refl _ _, b, q, hq, hb, rfl, rfl⟩
theorem s_slices_Delete_int (xs : List Int) {h : AH} {b q : Nat} (hq : xs.length ≤ q) (hb : h.blk b = some (i64s xs ++ List.replicate (q - xs.length) .undef)) (hq2 : xs.length ≤ 1000) {i : Nat} (hi : i < xs.length) :
    ACalls Try.prog n_slices_Delete_int [.msl b 0 xs.length (some q), I i, I ((i : Int) + 1)] h fun r h' => r = .sl false (xs.length - 1) (i64s (xs.eraseIdx i)) .unk ∧ h' = h.del b := by
  refine ACalls.of hm cF_slices_Delete_int (by simp [g_slices_Delete_int]) fun hw => ?_
  have c1 : ((i : Int) + 1).toNat = i + 1 := by omega
  have c2 : ¬ (i : Int) = (i : Int) + 1 := by omega
  have hc3 : (0 : Int) ≤ (i : Int) + 1 := by omega
  obtain ⟨cs0, hcs⟩ : ∃ cs0, cs0 = i64s xs ++ List.replicate (q - xs.length) AV.undef := ⟨_, rfl⟩
  have hlen : cs0.length = q := by rw [hcs, List.length_append, i64s_len, List.length_replicate]; omega
  rw [← hcs] at hb
  obtain ⟨ys, hys⟩ : ∃ ys, ys = (cs0.drop (i + 1)).take (xs.length - (i + 1)) := ⟨_, rfl⟩
  have hyl : ys.length = xs.length - (i + 1) := by rw [hys, List.length_take, List.length_drop, hlen]; omega
  have hfin : ∀ z, (spl (spl cs0 i ys) (xs.length - 1) [z]).take (xs.length - 1) = i64s (xs.eraseIdx i) := fun z => by
    have e1 : spl cs0 i ys = cs0.take i ++ ys ++ cs0.drop (i + ys.length) := spl_eq _ _ _ (by omega)
    have l1 : (spl cs0 i ys).length = q := by rw [e1]; simp only [List.length_append, List.length_take, List.length_drop]; omega
    rw [spl_eq _ _ _ (by rw [l1]; simp only [List.length_singleton]; omega), List.append_assoc, List.take_append_of_le_length (by rw [List.length_take, l1]; omega), List.take_take, Nat.min_self, e1, List.append_assoc]
    rw [List.take_append, List.take_append]
    have l2 : (cs0.take i).length = i := by rw [List.length_take]; omega
    rw [l2, List.take_of_length_le (by rw [l2]; omega), List.take_of_length_le (l := ys) (by omega), show xs.length - 1 - i - ys.length = 0 by omega, List.take_zero, List.append_nil]
    rw [List.eraseIdx_eq_take_drop_succ, i64s_append, hys, hcs]
    congr 1
    · rw [List.take_append_of_le_length (by rw [i64s_len]; omega), i64s_take]
    · rw [List.drop_append_of_le_length (by rw [i64s_len]; omega), i64s_dropn, List.take_append_of_le_length (by rw [i64s_len, List.length_drop]; omega), List.take_of_length_le (by rw [i64s_len, List.length_drop]; omega)]
  have hq3 : i + (xs.length - (i + 1)) ≤ q := by omega
  have l3 : (spl cs0 i ys).length = q := by
    rw [spl_eq _ _ _ (by omega)]; simp only [List.length_append, List.length_take, List.length_drop]; omega
  have hx1 : i + (xs.length - (i + 1)) = xs.length - 1 := by omega
  have hx2 : xs.length - (xs.length - 1) = 1 := by omega
  by_cases hend : i + 1 < q
  · simp only [c1, c2, mslCut_lt (show i < xs.length from hi), mslCut_lt hend, Nat.sub_zero, hb, ← hys, Nat.mul_one, hx1, F_slices_Delete_int, g_slices_Delete_int, go_sem, reduceIte, Nat.reduceEqDiff, Nat.reduceAdd, Nat.reduceMul, Nat.reduceSub, reduceCtorEq, Nat.reduceLeDiff, Nat.reduceLT, Int.reduceLT, Int.reduceLE, Int.reduceToNat, Int.reduceAdd, Int.reduceSub, Int.reduceNeg, Int.reduceMul, Int.reduceEq, ← Bool.decide_and, ← Bool.decide_or, ↓tq_n, ↓tq_e, ↓tq_r, ↓bq_n, ↓bq_e, ↓bq_r, ↓rq_n, ↓rq_r, ↓rq_e]
    (repeat (refine ⟨by first | omega | (rw [inR64]; omega) | rfl, ?_⟩))
    refine ⟨fun _ => ⟨by omega, ?_⟩, fun hn => absurd hn (by omega)⟩
    simp only [mslCut_lt (show xs.length - 1 < q by omega), Nat.mul_one, hx2, l3, F_slices_Delete_int, g_slices_Delete_int, go_sem, reduceIte, Nat.reduceEqDiff, Nat.reduceAdd, Nat.reduceMul, Nat.reduceSub, reduceCtorEq, Nat.reduceLeDiff, Nat.reduceLT, Int.reduceLT, Int.reduceLE, Int.reduceToNat, Int.reduceAdd, Int.reduceSub, Int.reduceNeg, Int.reduceMul, Int.reduceEq, ← Bool.decide_and, ← Bool.decide_or, ↓tq_n, ↓tq_e, ↓tq_r, ↓bq_n, ↓bq_e, ↓bq_r, ↓rq_n, ↓rq_r, ↓rq_e]
    (repeat (refine ⟨by first | omega | (rw [inR64]; omega) | rfl, ?_⟩))
    refine ⟨_, _, RGh.fix (AH.blk_put _ _ _) 1, ?_, ?_⟩
    · rw [Nat.mul_one]; exact congrArg (fun z => AV.sl false (xs.length - 1) z .unk) (hfin _)
    · simp only [AH.put, AH.del]
      congr 1
      funext y
      split <;> rfl
  · have hxq : xs.length = q := by omega
    have hxi : xs.length = i + 1 := by omega
    have hy0 : ys = [] := List.eq_nil_of_length_eq_zero (by omega)
    subst hy0
    simp only [c1, c2, mslCut_lt (show i < xs.length from hi), mslCut_end (show i + 1 ≠ 0 by omega) hend, Nat.sub_zero, hb, Nat.mul_one, hx1, F_slices_Delete_int, g_slices_Delete_int, go_sem, reduceIte, Nat.reduceEqDiff, Nat.reduceAdd, Nat.reduceMul, Nat.reduceSub, reduceCtorEq, Nat.reduceLeDiff, Nat.reduceLT, Int.reduceLT, Int.reduceLE, Int.reduceToNat, Int.reduceAdd, Int.reduceSub, Int.reduceNeg, Int.reduceMul, Int.reduceEq, ← Bool.decide_and, ← Bool.decide_or, ↓tq_n, ↓tq_e, ↓tq_r, ↓bq_n, ↓bq_e, ↓bq_r, ↓rq_n, ↓rq_r, ↓rq_e]
    (repeat (refine ⟨by first | omega | (rw [inR64]; omega) | rfl, ?_⟩))
    refine ⟨fun _ => ⟨by omega, ?_⟩, fun hn => absurd hn (by omega)⟩
    have e0 : h.put b cs0 = h.put b (spl cs0 i []) := rfl
    rw [e0]
    simp only [mslCut_lt (show xs.length - 1 < q by omega), Nat.mul_one, hx2, l3, F_slices_Delete_int, g_slices_Delete_int, go_sem, reduceIte, Nat.reduceEqDiff, Nat.reduceAdd, Nat.reduceMul, Nat.reduceSub, reduceCtorEq, Nat.reduceLeDiff, Nat.reduceLT, Int.reduceLT, Int.reduceLE, Int.reduceToNat, Int.reduceAdd, Int.reduceSub, Int.reduceNeg, Int.reduceMul, Int.reduceEq, ← Bool.decide_and, ← Bool.decide_or, ↓tq_n, ↓tq_e, ↓tq_r, ↓bq_n, ↓bq_e, ↓bq_r, ↓rq_n, ↓rq_r, ↓rq_e]
    (repeat (refine ⟨by first | omega | (rw [inR64]; omega) | rfl, ?_⟩))
    refine ⟨_, _, RGh.fix (AH.blk_put _ _ _) 1, ?_, ?_⟩
    · rw [Nat.mul_one]; exact congrArg (fun z => AV.sl false (xs.length - 1) z .unk) (hfin _)
    · simp only [AH.put, AH.del]
      congr 1
      funext y
      split <;> rfl

theorem r_ref_without (nl : Bool) (s : List Int) (tl : Tail) (i : Nat) (hi : i < s.length) (hs : s.length ≤ 1000) (h : AH) : RCall Try.prog n_ref_without [.sl nl s.length (i64s s) tl, I i] h (.sl false (s.length - 1) (i64s (s.eraseIdx i)) .unk) := by
  refine RCall.of hm cF_ref_without (by simp [g_ref_without]) fun hw h' hl => ?_
  have hi1 : ((i : Int) + 1).toNat = i + 1 := by omega
  simp only [hi1, F_ref_without, g_ref_without, go_sem, reduceIte, Nat.reduceEqDiff, Nat.reduceAdd, Nat.reduceMul, Nat.reduceSub, reduceCtorEq, Nat.reduceLeDiff, Nat.reduceLT, Int.reduceLT, Int.reduceLE, Int.reduceToNat, Int.reduceAdd, Int.reduceSub, Int.reduceNeg, Int.reduceMul, Int.reduceEq, ← Bool.decide_and, ← Bool.decide_or, ↓tq_n, ↓tq_e, ↓tq_r, ↓bq_n, ↓bq_e, ↓bq_r, ↓rq_n, ↓rq_r, ↓rq_e]
  refine ⟨by omega, by omega, by rw [inR64]; omega, by omega, by omega, by rw [List.length_take, i64s_len]; omega, by omega, by omega, TokG.mk fun t ht => ?_⟩
  simp only [F_ref_without, g_ref_without, go_sem, reduceIte, Nat.reduceEqDiff, Nat.reduceAdd, Nat.reduceMul, Nat.reduceSub, reduceCtorEq, Nat.reduceLeDiff, Nat.reduceLT, Int.reduceLT, Int.reduceLE, Int.reduceToNat, Int.reduceAdd, Int.reduceSub, Int.reduceNeg, Int.reduceMul, Int.reduceEq, ← Bool.decide_and, ← Bool.decide_or, ↓tq_n, ↓tq_e, ↓tq_r, ↓bq_n, ↓bq_e, ↓bq_r, ↓rq_n, ↓rq_r, ↓rq_e]
  have e : List.take (i - 0) (i64s s) ++ List.take (s.length - (i + 1)) (List.drop (i + 1) (i64s s)) = i64s (s.eraseIdx i) := by
    rw [Nat.sub_zero, i64s_dropn, List.take_of_length_le (l := i64s (s.drop (i + 1))) (by rw [i64s_len, List.length_drop]; exact Nat.le_refl _), i64s_take, ← i64s_append, List.eraseIdx_eq_take_drop_succ]
  have e2 : i - 0 + (s.length - (i + 1)) = s.length - 1 := by omega
  rw [e, e2]
  refine ⟨by rw [List.length_take, i64s_len]; omega, by rw [List.length_take, List.length_drop, i64s_len]; omega, by omega, by omega, ?_⟩
  exact ret_le (AH.le_setTok (.refl _) ht) AV.le.unk
/-- A minimal contradictory set. -/
def miB (n : Int) (a : List (Int × Int)) (s : List Int) : Bool := isB n a s && (List.range s.length).all fun i => !cyB n.toNat (sub a (s.eraseIdx i))
theorem miB_false {n : Int} {a : List (Int × Int)} {s : List Int} {i : Nat} (hi : i < s.length) (h : cyB n.toNat (sub a (s.eraseIdx i)) = true) : miB n a s = false := by
  unfold miB
  rw [Bool.and_eq_false_iff]
  right
  rw [Bool.eq_false_iff]
  intro hh
  have := (List.all_eq_true.1 hh) i (List.mem_range.2 hi)
  rw [h] at this
  cases this
theorem miB_true {n : Int} {a : List (Int × Int)} {s : List Int} (h1 : isB n a s = true) (h : ∀ i, i < s.length → cyB n.toNat (sub a (s.eraseIdx i)) = false) : miB n a s = true := by
  unfold miB
  rw [h1, Bool.true_and, List.all_eq_true]
  intro i hi
  rw [h i (List.mem_range.1 hi)]
  rfl
theorem isB_of {n : Int} {a : List (Int × Int)} {s : List Int} (h : isB n a s = true) : Ev n a ∧ Ix a.length s := by
  unfold isB at h
  rw [Bool.and_eq_true] at h
  exact of_decide_eq_true h.1
theorem ix_len {k : Nat} {s : List Int} (h : Ix k s) : s.length ≤ k := by
  have key : ∀ i, i < s.length → (i : Int) ≤ s.getD i 0 := by
    intro i
    induction i with
    | zero => intro hi; exact (h 0 hi).1.1
    | succ i ih =>
      intro hi
      have h1 := (h (i + 1) hi).2 (by omega)
      rw [Nat.add_sub_cancel] at h1
      have := ih (by omega)
      omega
  rcases Nat.eq_zero_or_pos s.length with e | e
  · omega
  · have := key (s.length - 1) (by omega)
    have h2 := (h (s.length - 1) (by omega)).1
    omega
theorem r_contradiction_MinimalF (n : Int) (n1 : Bool) (a : List (Int × Int)) (u1 : Tail) (n2 : Bool) (s : List Int) (u2 : Tail) (hnl : 0 < s.length → n2 = false) (h : AH) :
    RCall Try.prog n_contradiction_Minimal [I n, .sl n1 a.length (prs a) u1, .sl n2 s.length (i64s s) u2] h (.bool (miB n a s)) := by
  refine RCall.of hm cF_contradiction_Minimal (by simp [g_contradiction_Minimal]) fun hw h' hl => ?_
  simp only [F_contradiction_Minimal, g_contradiction_Minimal, go_sem, reduceIte, Nat.reduceEqDiff, Nat.reduceAdd, Nat.reduceMul, Nat.reduceSub, reduceCtorEq, Nat.reduceLeDiff, Nat.reduceLT, Int.reduceLT, Int.reduceLE, Int.reduceToNat, Int.reduceAdd, Int.reduceSub, Int.reduceNeg, Int.reduceMul, Int.reduceEq, ← Bool.decide_and, ← Bool.decide_or, ↓tq_n, ↓tq_e, ↓tq_r, ↓bq_n, ↓bq_e, ↓bq_r, ↓rq_n, ↓rq_r, ↓rq_e]
  refine CallG.mk (r_contradiction_Is n n1 a u1 n2 s u2 _) ?_
  cases h1 : isB n a s with
  | false =>
    simp only [F_contradiction_Minimal, g_contradiction_Minimal, go_sem, reduceIte, Nat.reduceEqDiff, Nat.reduceAdd, Nat.reduceMul, Nat.reduceSub, reduceCtorEq, Nat.reduceLeDiff, Nat.reduceLT, Int.reduceLT, Int.reduceLE, Int.reduceToNat, Int.reduceAdd, Int.reduceSub, Int.reduceNeg, Int.reduceMul, Int.reduceEq, ← Bool.decide_and, ← Bool.decide_or, ↓tq_n, ↓tq_e, ↓tq_r, ↓bq_n, ↓bq_e, ↓bq_r, ↓rq_n, ↓rq_r, ↓rq_e]
    exact ret_ok (by unfold miB; rw [h1]; rfl)
  | true =>
    obtain ⟨he, hs⟩ := isB_of h1
    obtain ⟨m, rfl⟩ := ev_nat he
    have hle : s.length ≤ 1000 := by have := ix_len hs; have := he.2.2.1; omega
    simp only [F_contradiction_Minimal, g_contradiction_Minimal, go_sem, reduceIte, Nat.reduceEqDiff, Nat.reduceAdd, Nat.reduceMul, Nat.reduceSub, reduceCtorEq, Nat.reduceLeDiff, Nat.reduceLT, Int.reduceLT, Int.reduceLE, Int.reduceToNat, Int.reduceAdd, Int.reduceSub, Int.reduceNeg, Int.reduceMul, Int.reduceEq, ← Bool.decide_and, ← Bool.decide_or, ↓tq_n, ↓tq_e, ↓tq_r, ↓bq_n, ↓bq_e, ↓bq_r, ↓rq_n, ↓rq_r, ↓rq_e]
    refine awp_loop (fun i : Nat => [(0, I m), (1, .sl n1 a.length (prs a) u1), (2, .sl n2 s.length (i64s s) u2), (14, I s.length), (15, I i)]) (fun _ => h') (fun i => i ≤ s.length ∧ ∀ j, j < i → cyB m (sub a (s.eraseIdx j)) = false) (fun i => s.length - i) 0 ⟨Nat.zero_le _, fun j hj => absurd hj (Nat.not_lt_zero _)⟩ (GStep.forget (by repeat' first | exact EnvLe.nil _ | refine EnvLe.cons (AV.le.of_eq rfl) ?_ | refine EnvLe.cons (AV.le.undef _) ?_ | refine EnvLe.cons AV.le.unk ?_) (by repeat' first | exact AH.le.refl _ | assumption | (refine AH.le_put ?_ (by first | assumption | exact (AH.blk_put_ne _ _ (by assumption)).trans (by assumption) | exact AH.none_put (by assumption) | exact AH.none_put (AH.none_put (by assumption)) | (simp only [AH.blk_setTok, AH.tok_put] at *; first | assumption | exact AH.none_put (by assumption)))) | (refine AH.le_setTok ?_ (by first | assumption | exact (AH.blk_put_ne _ _ (by assumption)).trans (by assumption) | exact AH.none_put (by assumption) | exact AH.none_put (AH.none_put (by assumption)) | (simp only [AH.blk_setTok, AH.tok_put] at *; first | assumption | exact AH.none_put (by assumption)))) | (refine AH.le_putM ?_ (by first | assumption | exact (AH.mp_putM_ne _ _ (by assumption)).trans (by assumption) | (simp only [AH.mp_put, AH.mp_setTok] at *; assumption))))) fun i hi => .of_vg hm ?_
    obtain ⟨k1, k2⟩ := hi
    by_cases h3 : i < s.length
    · have hc : (i : Int) < (s.length : Int) := by omega
      simp only [hc, F_contradiction_Minimal, g_contradiction_Minimal, go_sem, reduceIte, Nat.reduceEqDiff, Nat.reduceAdd, Nat.reduceMul, Nat.reduceSub, reduceCtorEq, Nat.reduceLeDiff, Nat.reduceLT, Int.reduceLT, Int.reduceLE, Int.reduceToNat, Int.reduceAdd, Int.reduceSub, Int.reduceNeg, Int.reduceMul, Int.reduceEq, ← Bool.decide_and, ← Bool.decide_or, ↓tq_n, ↓tq_e, ↓tq_r, ↓bq_n, ↓bq_e, ↓bq_r, ↓rq_n, ↓rq_r, ↓rq_e]
      refine CallS.mk (s_slices_Clone_int n2 s u2 (hnl (by omega)) (by omega) hle _) fun r h'' hr => ?_
      obtain ⟨b, q, hq, hb, rfl, rfl⟩ := hr
      simp only [F_contradiction_Minimal, g_contradiction_Minimal, go_sem, reduceIte, Nat.reduceEqDiff, Nat.reduceAdd, Nat.reduceMul, Nat.reduceSub, reduceCtorEq, Nat.reduceLeDiff, Nat.reduceLT, Int.reduceLT, Int.reduceLE, Int.reduceToNat, Int.reduceAdd, Int.reduceSub, Int.reduceNeg, Int.reduceMul, Int.reduceEq, ← Bool.decide_and, ← Bool.decide_or, ↓tq_n, ↓tq_e, ↓tq_r, ↓bq_n, ↓bq_e, ↓bq_r, ↓rq_n, ↓rq_r, ↓rq_e]
      refine ⟨by rw [inR64]; omega, CallS.mk (s_slices_Delete_int s hq (AH.blk_put _ _ _) hle h3) fun r h'' hr => ?_⟩
      obtain ⟨rfl, rfl⟩ := hr
      rw [AH.del_put hb]
      simp only [F_contradiction_Minimal, g_contradiction_Minimal, go_sem, reduceIte, Nat.reduceEqDiff, Nat.reduceAdd, Nat.reduceMul, Nat.reduceSub, reduceCtorEq, Nat.reduceLeDiff, Nat.reduceLT, Int.reduceLT, Int.reduceLE, Int.reduceToNat, Int.reduceAdd, Int.reduceSub, Int.reduceNeg, Int.reduceMul, Int.reduceEq, ← Bool.decide_and, ← Bool.decide_or, ↓tq_n, ↓tq_e, ↓tq_r, ↓bq_n, ↓bq_e, ↓bq_r, ↓rq_n, ↓rq_r, ↓rq_e]
      have hlen : (s.eraseIdx i).length = s.length - 1 := by rw [List.length_eraseIdx, if_pos h3]
      have hcl := r_contradiction_clashes m n1 a u1 he false (s.eraseIdx i) .unk (ix_erase hs i) h'
      rw [hlen] at hcl
      refine CallG.mk hcl ?_
      cases h4 : cyB m (sub a (s.eraseIdx i)) with
      | true =>
        simp only [F_contradiction_Minimal, g_contradiction_Minimal, go_sem, reduceIte, Nat.reduceEqDiff, Nat.reduceAdd, Nat.reduceMul, Nat.reduceSub, reduceCtorEq, Nat.reduceLeDiff, Nat.reduceLT, Int.reduceLT, Int.reduceLE, Int.reduceToNat, Int.reduceAdd, Int.reduceSub, Int.reduceNeg, Int.reduceMul, Int.reduceEq, ← Bool.decide_and, ← Bool.decide_or, ↓tq_n, ↓tq_e, ↓tq_r, ↓bq_n, ↓bq_e, ↓bq_r, ↓rq_n, ↓rq_r, ↓rq_e]
        exact ret_ok (by rw [miB_false (n := (m : Int)) h3 h4])
      | false =>
        simp only [F_contradiction_Minimal, g_contradiction_Minimal, go_sem, reduceIte, Nat.reduceEqDiff, Nat.reduceAdd, Nat.reduceMul, Nat.reduceSub, reduceCtorEq, Nat.reduceLeDiff, Nat.reduceLT, Int.reduceLT, Int.reduceLE, Int.reduceToNat, Int.reduceAdd, Int.reduceSub, Int.reduceNeg, Int.reduceMul, Int.reduceEq, ← Bool.decide_and, ← Bool.decide_or, ↓tq_n, ↓tq_e, ↓tq_r, ↓bq_n, ↓bq_e, ↓bq_r, ↓rq_n, ↓rq_r, ↓rq_e]
        exact ⟨by rw [inR64]; omega, i + 1, ⟨by omega, all_succ k2 h4⟩, by omega, (GStep.forget (by repeat' first | exact EnvLe.nil _ | refine EnvLe.cons (AV.le.of_eq rfl) ?_ | refine EnvLe.cons (AV.le.undef _) ?_ | refine EnvLe.cons AV.le.unk ?_) (by repeat' first | exact AH.le.refl _ | assumption | (refine AH.le_put ?_ (by first | assumption | exact (AH.blk_put_ne _ _ (by assumption)).trans (by assumption) | exact AH.none_put (by assumption) | exact AH.none_put (AH.none_put (by assumption)) | (simp only [AH.blk_setTok, AH.tok_put] at *; first | assumption | exact AH.none_put (by assumption)))) | (refine AH.le_setTok ?_ (by first | assumption | exact (AH.blk_put_ne _ _ (by assumption)).trans (by assumption) | exact AH.none_put (by assumption) | exact AH.none_put (AH.none_put (by assumption)) | (simp only [AH.blk_setTok, AH.tok_put] at *; first | assumption | exact AH.none_put (by assumption)))) | (refine AH.le_putM ?_ (by first | assumption | exact (AH.mp_putM_ne _ _ (by assumption)).trans (by assumption) | (simp only [AH.mp_put, AH.mp_setTok] at *; assumption)))))⟩
    · have h3 : i = s.length := by omega
      subst h3
      simp only [F_contradiction_Minimal, g_contradiction_Minimal, go_sem, reduceIte, Nat.reduceEqDiff, Nat.reduceAdd, Nat.reduceMul, Nat.reduceSub, reduceCtorEq, Nat.reduceLeDiff, Nat.reduceLT, Int.reduceLT, Int.reduceLE, Int.reduceToNat, Int.reduceAdd, Int.reduceSub, Int.reduceNeg, Int.reduceMul, Int.reduceEq, ← Bool.decide_and, ← Bool.decide_or, ↓tq_n, ↓tq_e, ↓tq_r, ↓bq_n, ↓bq_e, ↓bq_r, ↓rq_n, ↓rq_r, ↓rq_e]
      exact ret_ok (by rw [miB_true (n := (m : Int)) h1 k2])
theorem r_contradiction_Minimal (n : Int) (n1 : Bool) (a : List (Int × Int)) (u1 : Tail) (n2 : Bool) (s : List Int) (u2 : Tail) (h : AH) :
    RCall Try.prog n_contradiction_Minimal [I n, .sl n1 a.length (prs a) u1, .sl n2 s.length (i64s s) u2] h (.bool (miB n a s)) := by
  by_cases hc : n2 = true ∧ 0 < s.length
  · obtain ⟨rfl, h2⟩ := hc
    exact RCall.nil_vac (pre := [I n, .sl n1 a.length (prs a) u1]) (by kernel_rfl) h2
  · exact r_contradiction_MinimalF n n1 a u1 n2 s u2 (fun h2 => by cases n2 with | false => rfl | true => exact absurd ⟨rfl, h2⟩ hc) h
theorem r_ref_Minimal (n : Int) (n1 : Bool) (a : List (Int × Int)) (u1 : Tail) (n2 : Bool) (s : List Int) (u2 : Tail) (h : AH) :
    RCall Try.prog n_ref_Minimal [I n, .sl n1 a.length (prs a) u1, .sl n2 s.length (i64s s) u2] h (.bool (miB n a s)) := by
  refine RCall.of hm cF_ref_Minimal (by simp [g_ref_Minimal]) fun hw h' hl => ?_
  simp only [F_ref_Minimal, g_ref_Minimal, go_sem, reduceIte, Nat.reduceEqDiff, Nat.reduceAdd, Nat.reduceMul, Nat.reduceSub, reduceCtorEq, Nat.reduceLeDiff, Nat.reduceLT, Int.reduceLT, Int.reduceLE, Int.reduceToNat, Int.reduceAdd, Int.reduceSub, Int.reduceNeg, Int.reduceMul, Int.reduceEq, ← Bool.decide_and, ← Bool.decide_or, ↓tq_n, ↓tq_e, ↓tq_r, ↓bq_n, ↓bq_e, ↓bq_r, ↓rq_n, ↓rq_r, ↓rq_e]
  refine CallG.mk (r_ref_Is n n1 a u1 n2 s u2 _) ?_
  cases h1 : isB n a s with
  | false =>
    simp only [F_ref_Minimal, g_ref_Minimal, go_sem, reduceIte, Nat.reduceEqDiff, Nat.reduceAdd, Nat.reduceMul, Nat.reduceSub, reduceCtorEq, Nat.reduceLeDiff, Nat.reduceLT, Int.reduceLT, Int.reduceLE, Int.reduceToNat, Int.reduceAdd, Int.reduceSub, Int.reduceNeg, Int.reduceMul, Int.reduceEq, ← Bool.decide_and, ← Bool.decide_or, ↓tq_n, ↓tq_e, ↓tq_r, ↓bq_n, ↓bq_e, ↓bq_r, ↓rq_n, ↓rq_r, ↓rq_e]
    exact ret_ok (by unfold miB; rw [h1]; rfl)
  | true =>
    obtain ⟨he, hs⟩ := isB_of h1
    obtain ⟨m, rfl⟩ := ev_nat he
    have hle : s.length ≤ 1000 := by have := ix_len hs; have := he.2.2.1; omega
    simp only [F_ref_Minimal, g_ref_Minimal, go_sem, reduceIte, Nat.reduceEqDiff, Nat.reduceAdd, Nat.reduceMul, Nat.reduceSub, reduceCtorEq, Nat.reduceLeDiff, Nat.reduceLT, Int.reduceLT, Int.reduceLE, Int.reduceToNat, Int.reduceAdd, Int.reduceSub, Int.reduceNeg, Int.reduceMul, Int.reduceEq, ← Bool.decide_and, ← Bool.decide_or, ↓tq_n, ↓tq_e, ↓tq_r, ↓bq_n, ↓bq_e, ↓bq_r, ↓rq_n, ↓rq_r, ↓rq_e]
    refine awp_loop (fun i : Nat => [(0, I m), (1, .sl n1 a.length (prs a) u1), (2, .sl n2 s.length (i64s s) u2), (7, I i)]) (fun _ => h') (fun i => i ≤ s.length ∧ ∀ j, j < i → cyB m (sub a (s.eraseIdx j)) = false) (fun i => s.length - i) 0 ⟨Nat.zero_le _, fun j hj => absurd hj (Nat.not_lt_zero _)⟩ (GStep.forget (by repeat' first | exact EnvLe.nil _ | refine EnvLe.cons (AV.le.of_eq rfl) ?_ | refine EnvLe.cons (AV.le.undef _) ?_ | refine EnvLe.cons AV.le.unk ?_) (by repeat' first | exact AH.le.refl _ | assumption | (refine AH.le_put ?_ (by first | assumption | exact (AH.blk_put_ne _ _ (by assumption)).trans (by assumption) | exact AH.none_put (by assumption) | exact AH.none_put (AH.none_put (by assumption)) | (simp only [AH.blk_setTok, AH.tok_put] at *; first | assumption | exact AH.none_put (by assumption)))) | (refine AH.le_setTok ?_ (by first | assumption | exact (AH.blk_put_ne _ _ (by assumption)).trans (by assumption) | exact AH.none_put (by assumption) | exact AH.none_put (AH.none_put (by assumption)) | (simp only [AH.blk_setTok, AH.tok_put] at *; first | assumption | exact AH.none_put (by assumption)))) | (refine AH.le_putM ?_ (by first | assumption | exact (AH.mp_putM_ne _ _ (by assumption)).trans (by assumption) | (simp only [AH.mp_put, AH.mp_setTok] at *; assumption))))) fun i hi => .of_vg hm ?_
    obtain ⟨k1, k2⟩ := hi
    by_cases h3 : i < s.length
    · have hc : (i : Int) < (s.length : Int) := by omega
      simp only [hc, F_ref_Minimal, g_ref_Minimal, go_sem, reduceIte, Nat.reduceEqDiff, Nat.reduceAdd, Nat.reduceMul, Nat.reduceSub, reduceCtorEq, Nat.reduceLeDiff, Nat.reduceLT, Int.reduceLT, Int.reduceLE, Int.reduceToNat, Int.reduceAdd, Int.reduceSub, Int.reduceNeg, Int.reduceMul, Int.reduceEq, ← Bool.decide_and, ← Bool.decide_or, ↓tq_n, ↓tq_e, ↓tq_r, ↓bq_n, ↓bq_e, ↓bq_r, ↓rq_n, ↓rq_r, ↓rq_e]
      refine CallG.mk (r_ref_without n2 s u2 i h3 hle _) ?_
      simp only [F_ref_Minimal, g_ref_Minimal, go_sem, reduceIte, Nat.reduceEqDiff, Nat.reduceAdd, Nat.reduceMul, Nat.reduceSub, reduceCtorEq, Nat.reduceLeDiff, Nat.reduceLT, Int.reduceLT, Int.reduceLE, Int.reduceToNat, Int.reduceAdd, Int.reduceSub, Int.reduceNeg, Int.reduceMul, Int.reduceEq, ← Bool.decide_and, ← Bool.decide_or, ↓tq_n, ↓tq_e, ↓tq_r, ↓bq_n, ↓bq_e, ↓bq_r, ↓rq_n, ↓rq_r, ↓rq_e]
      have hlen : (s.eraseIdx i).length = s.length - 1 := by rw [List.length_eraseIdx, if_pos h3]
      have hcl := r_ref_Cyclic m n1 a u1 he false (s.eraseIdx i) .unk (ix_erase hs i) h'
      rw [hlen] at hcl
      refine CallG.mk hcl ?_
      cases h4 : cyB m (sub a (s.eraseIdx i)) with
      | true =>
        simp only [F_ref_Minimal, g_ref_Minimal, go_sem, reduceIte, Nat.reduceEqDiff, Nat.reduceAdd, Nat.reduceMul, Nat.reduceSub, reduceCtorEq, Nat.reduceLeDiff, Nat.reduceLT, Int.reduceLT, Int.reduceLE, Int.reduceToNat, Int.reduceAdd, Int.reduceSub, Int.reduceNeg, Int.reduceMul, Int.reduceEq, ← Bool.decide_and, ← Bool.decide_or, ↓tq_n, ↓tq_e, ↓tq_r, ↓bq_n, ↓bq_e, ↓bq_r, ↓rq_n, ↓rq_r, ↓rq_e]
        exact ret_ok (by rw [miB_false (n := (m : Int)) h3 h4])
      | false =>
        simp only [F_ref_Minimal, g_ref_Minimal, go_sem, reduceIte, Nat.reduceEqDiff, Nat.reduceAdd, Nat.reduceMul, Nat.reduceSub, reduceCtorEq, Nat.reduceLeDiff, Nat.reduceLT, Int.reduceLT, Int.reduceLE, Int.reduceToNat, Int.reduceAdd, Int.reduceSub, Int.reduceNeg, Int.reduceMul, Int.reduceEq, ← Bool.decide_and, ← Bool.decide_or, ↓tq_n, ↓tq_e, ↓tq_r, ↓bq_n, ↓bq_e, ↓bq_r, ↓rq_n, ↓rq_r, ↓rq_e]
        exact ⟨by rw [inR64]; omega, i + 1, ⟨by omega, all_succ k2 h4⟩, by omega, (GStep.forget (by repeat' first | exact EnvLe.nil _ | refine EnvLe.cons (AV.le.of_eq rfl) ?_ | refine EnvLe.cons (AV.le.undef _) ?_ | refine EnvLe.cons AV.le.unk ?_) (by repeat' first | exact AH.le.refl _ | assumption | (refine AH.le_put ?_ (by first | assumption | exact (AH.blk_put_ne _ _ (by assumption)).trans (by assumption) | exact AH.none_put (by assumption) | exact AH.none_put (AH.none_put (by assumption)) | (simp only [AH.blk_setTok, AH.tok_put] at *; first | assumption | exact AH.none_put (by assumption)))) | (refine AH.le_setTok ?_ (by first | assumption | exact (AH.blk_put_ne _ _ (by assumption)).trans (by assumption) | exact AH.none_put (by assumption) | exact AH.none_put (AH.none_put (by assumption)) | (simp only [AH.blk_setTok, AH.tok_put] at *; first | assumption | exact AH.none_put (by assumption)))) | (refine AH.le_putM ?_ (by first | assumption | exact (AH.mp_putM_ne _ _ (by assumption)).trans (by assumption) | (simp only [AH.mp_put, AH.mp_setTok] at *; assumption)))))⟩
    · have h3 : i = s.length := by omega
      subst h3
      simp only [F_ref_Minimal, g_ref_Minimal, go_sem, reduceIte, Nat.reduceEqDiff, Nat.reduceAdd, Nat.reduceMul, Nat.reduceSub, reduceCtorEq, Nat.reduceLeDiff, Nat.reduceLT, Int.reduceLT, Int.reduceLE, Int.reduceToNat, Int.reduceAdd, Int.reduceSub, Int.reduceNeg, Int.reduceMul, Int.reduceEq, ← Bool.decide_and, ← Bool.decide_or, ↓tq_n, ↓tq_e, ↓tq_r, ↓bq_n, ↓bq_e, ↓bq_r, ↓rq_n, ↓rq_r, ↓rq_e]
      exact ret_ok (by rw [miB_true (n := (m : Int)) h1 k2])

def nats (l : List Nat) : List Int := l.map fun (k : Nat) => (k : Int)
theorem nats_succ (i : Nat) : nats (List.range (i + 1)) = nats (List.range i) ++ [(i : Int)] := by simp [nats, List.range_succ]
theorem allI_len (i : Nat) : (nats (List.range i)).length = i := by simp [nats]
theorem r_contradiction_whole (nl : Bool) (a : List (Int × Int)) (tl : Tail) (ha : a.length ≤ 1000) (h : AH) : RCall Try.prog n_contradiction_whole [.sl nl a.length (prs a) tl] h (gl (i64s (nats (List.range a.length))) a.length .unk) := by
  refine RCall.of hm cF_contradiction_whole (by simp [g_contradiction_whole]) fun hw h' hl => ?_
  simp only [F_contradiction_whole, g_contradiction_whole, go_sem, reduceIte, Nat.reduceEqDiff, Nat.reduceAdd, Nat.reduceMul, Nat.reduceSub, reduceCtorEq, Nat.reduceLeDiff, Nat.reduceLT, Int.reduceLT, Int.reduceLE, Int.reduceToNat, Int.reduceAdd, Int.reduceSub, Int.reduceNeg, Int.reduceMul, Int.reduceEq, ← Bool.decide_and, ← Bool.decide_or, ↓tq_n, ↓tq_e, ↓tq_r, ↓bq_n, ↓bq_e, ↓bq_r, ↓rq_n, ↓rq_r, ↓rq_e]
  refine awp_tok 3 1 (nl := true) (n := 0) (cs := []) rfl fun t ht => ?_
  refine awp_loop (fun i : Nat => [(3, gl (i64s (nats (List.range i))) i (.tok t)), (6, I a.length), (7, I i)]) (fun i => h'.setTok t i 1) (fun i => i ≤ a.length) (fun i => a.length - i) 0 (Nat.zero_le _) (GStep.forget (by repeat' first | exact EnvLe.nil _ | refine EnvLe.cons (AV.le.of_eq rfl) ?_ | refine EnvLe.cons (AV.le.undef _) ?_ | refine EnvLe.cons AV.le.unk ?_) (by repeat' first | exact AH.le.refl _ | assumption | (refine AH.le_put ?_ (by first | assumption | exact (AH.blk_put_ne _ _ (by assumption)).trans (by assumption) | exact AH.none_put (by assumption) | exact AH.none_put (AH.none_put (by assumption)) | (simp only [AH.blk_setTok, AH.tok_put] at *; first | assumption | exact AH.none_put (by assumption)))) | (refine AH.le_setTok ?_ (by first | assumption | exact (AH.blk_put_ne _ _ (by assumption)).trans (by assumption) | exact AH.none_put (by assumption) | exact AH.none_put (AH.none_put (by assumption)) | (simp only [AH.blk_setTok, AH.tok_put] at *; first | assumption | exact AH.none_put (by assumption)))) | (refine AH.le_putM ?_ (by first | assumption | exact (AH.mp_putM_ne _ _ (by assumption)).trans (by assumption) | (simp only [AH.mp_put, AH.mp_setTok] at *; assumption))))) fun i hi => .of_vg hm ?_
  by_cases h3 : i < a.length
  · have hc3 : (i : Int) < (a.length : Int) := by omega
    simp only [hc3, F_contradiction_whole, g_contradiction_whole, go_sem, reduceIte, Nat.reduceEqDiff, Nat.reduceAdd, Nat.reduceMul, Nat.reduceSub, reduceCtorEq, Nat.reduceLeDiff, Nat.reduceLT, Int.reduceLT, Int.reduceLE, Int.reduceToNat, Int.reduceAdd, Int.reduceSub, Int.reduceNeg, Int.reduceMul, Int.reduceEq, ← Bool.decide_and, ← Bool.decide_or, ↓tq_n, ↓tq_e, ↓tq_r, ↓bq_n, ↓bq_e, ↓bq_r, ↓rq_n, ↓rq_r, ↓rq_e]
    refine ⟨by rw [i64s_len, allI_len], by omega, by omega, by rw [inR64]; omega, i + 1, by omega, by omega, ?_⟩
    rw [nats_succ, i64s_append]
    exact (GStep.forget (by repeat' first | exact EnvLe.nil _ | refine EnvLe.cons (AV.le.of_eq rfl) ?_ | refine EnvLe.cons (AV.le.undef _) ?_ | refine EnvLe.cons AV.le.unk ?_) (by repeat' first | exact AH.le.refl _ | assumption | (refine AH.le_put ?_ (by first | assumption | exact (AH.blk_put_ne _ _ (by assumption)).trans (by assumption) | exact AH.none_put (by assumption) | exact AH.none_put (AH.none_put (by assumption)) | (simp only [AH.blk_setTok, AH.tok_put] at *; first | assumption | exact AH.none_put (by assumption)))) | (refine AH.le_setTok ?_ (by first | assumption | exact (AH.blk_put_ne _ _ (by assumption)).trans (by assumption) | exact AH.none_put (by assumption) | exact AH.none_put (AH.none_put (by assumption)) | (simp only [AH.blk_setTok, AH.tok_put] at *; first | assumption | exact AH.none_put (by assumption)))) | (refine AH.le_putM ?_ (by first | assumption | exact (AH.mp_putM_ne _ _ (by assumption)).trans (by assumption) | (simp only [AH.mp_put, AH.mp_setTok] at *; assumption)))))
  · have h3 : i = a.length := by omega
    subst h3
    simp only [F_contradiction_whole, g_contradiction_whole, go_sem, reduceIte, Nat.reduceEqDiff, Nat.reduceAdd, Nat.reduceMul, Nat.reduceSub, reduceCtorEq, Nat.reduceLeDiff, Nat.reduceLT, Int.reduceLT, Int.reduceLE, Int.reduceToNat, Int.reduceAdd, Int.reduceSub, Int.reduceNeg, Int.reduceMul, Int.reduceEq, ← Bool.decide_and, ← Bool.decide_or, ↓tq_n, ↓tq_e, ↓tq_r, ↓bq_n, ↓bq_e, ↓bq_r, ↓rq_n, ↓rq_r, ↓rq_e]
    exact ret_gl (by repeat' first | exact AH.le.refl _ | assumption | (refine AH.le_put ?_ (by first | assumption | exact (AH.blk_put_ne _ _ (by assumption)).trans (by assumption) | exact AH.none_put (by assumption) | exact AH.none_put (AH.none_put (by assumption)) | (simp only [AH.blk_setTok, AH.tok_put] at *; first | assumption | exact AH.none_put (by assumption)))) | (refine AH.le_setTok ?_ (by first | assumption | exact (AH.blk_put_ne _ _ (by assumption)).trans (by assumption) | exact AH.none_put (by assumption) | exact AH.none_put (AH.none_put (by assumption)) | (simp only [AH.blk_setTok, AH.tok_put] at *; first | assumption | exact AH.none_put (by assumption)))) | (refine AH.le_putM ?_ (by first | assumption | exact (AH.mp_putM_ne _ _ (by assumption)).trans (by assumption) | (simp only [AH.mp_put, AH.mp_setTok] at *; assumption))))
theorem r_ref_All (nl : Bool) (a : List (Int × Int)) (tl : Tail) (ha : a.length ≤ 1000) (h : AH) : RCall Try.prog n_ref_All [.sl nl a.length (prs a) tl] h (gl (i64s (nats (List.range a.length))) a.length .unk) := by
  refine RCall.of hm cF_ref_All (by simp [g_ref_All]) fun hw h' hl => ?_
  simp only [F_ref_All, g_ref_All, go_sem, reduceIte, Nat.reduceEqDiff, Nat.reduceAdd, Nat.reduceMul, Nat.reduceSub, reduceCtorEq, Nat.reduceLeDiff, Nat.reduceLT, Int.reduceLT, Int.reduceLE, Int.reduceToNat, Int.reduceAdd, Int.reduceSub, Int.reduceNeg, Int.reduceMul, Int.reduceEq, ← Bool.decide_and, ← Bool.decide_or, ↓tq_n, ↓tq_e, ↓tq_r, ↓bq_n, ↓bq_e, ↓bq_r, ↓rq_n, ↓rq_r, ↓rq_e]
  refine awp_tok 3 1 (nl := true) (n := 0) (cs := []) rfl fun t ht => ?_
  refine awp_loop (fun i : Nat => [(0, .sl nl a.length (prs a) tl), (3, gl (i64s (nats (List.range i))) i (.tok t)), (4, I i)]) (fun i => h'.setTok t i 1) (fun i => i ≤ a.length) (fun i => a.length - i) 0 (Nat.zero_le _) (GStep.forget (by repeat' first | exact EnvLe.nil _ | refine EnvLe.cons (AV.le.of_eq rfl) ?_ | refine EnvLe.cons (AV.le.undef _) ?_ | refine EnvLe.cons AV.le.unk ?_) (by repeat' first | exact AH.le.refl _ | assumption | (refine AH.le_put ?_ (by first | assumption | exact (AH.blk_put_ne _ _ (by assumption)).trans (by assumption) | exact AH.none_put (by assumption) | exact AH.none_put (AH.none_put (by assumption)) | (simp only [AH.blk_setTok, AH.tok_put] at *; first | assumption | exact AH.none_put (by assumption)))) | (refine AH.le_setTok ?_ (by first | assumption | exact (AH.blk_put_ne _ _ (by assumption)).trans (by assumption) | exact AH.none_put (by assumption) | exact AH.none_put (AH.none_put (by assumption)) | (simp only [AH.blk_setTok, AH.tok_put] at *; first | assumption | exact AH.none_put (by assumption)))) | (refine AH.le_putM ?_ (by first | assumption | exact (AH.mp_putM_ne _ _ (by assumption)).trans (by assumption) | (simp only [AH.mp_put, AH.mp_setTok] at *; assumption))))) fun i hi => .of_vg hm ?_
  by_cases h3 : i < a.length
  · have hc3 : (i : Int) < (a.length : Int) := by omega
    simp only [hc3, F_ref_All, g_ref_All, go_sem, reduceIte, Nat.reduceEqDiff, Nat.reduceAdd, Nat.reduceMul, Nat.reduceSub, reduceCtorEq, Nat.reduceLeDiff, Nat.reduceLT, Int.reduceLT, Int.reduceLE, Int.reduceToNat, Int.reduceAdd, Int.reduceSub, Int.reduceNeg, Int.reduceMul, Int.reduceEq, ← Bool.decide_and, ← Bool.decide_or, ↓tq_n, ↓tq_e, ↓tq_r, ↓bq_n, ↓bq_e, ↓bq_r, ↓rq_n, ↓rq_r, ↓rq_e]
    refine ⟨by rw [i64s_len, allI_len], by omega, by omega, by rw [inR64]; omega, i + 1, by omega, by omega, ?_⟩
    rw [nats_succ, i64s_append]
    exact (GStep.forget (by repeat' first | exact EnvLe.nil _ | refine EnvLe.cons (AV.le.of_eq rfl) ?_ | refine EnvLe.cons (AV.le.undef _) ?_ | refine EnvLe.cons AV.le.unk ?_) (by repeat' first | exact AH.le.refl _ | assumption | (refine AH.le_put ?_ (by first | assumption | exact (AH.blk_put_ne _ _ (by assumption)).trans (by assumption) | exact AH.none_put (by assumption) | exact AH.none_put (AH.none_put (by assumption)) | (simp only [AH.blk_setTok, AH.tok_put] at *; first | assumption | exact AH.none_put (by assumption)))) | (refine AH.le_setTok ?_ (by first | assumption | exact (AH.blk_put_ne _ _ (by assumption)).trans (by assumption) | exact AH.none_put (by assumption) | exact AH.none_put (AH.none_put (by assumption)) | (simp only [AH.blk_setTok, AH.tok_put] at *; first | assumption | exact AH.none_put (by assumption)))) | (refine AH.le_putM ?_ (by first | assumption | exact (AH.mp_putM_ne _ _ (by assumption)).trans (by assumption) | (simp only [AH.mp_put, AH.mp_setTok] at *; assumption)))))
  · have h3 : i = a.length := by omega
    subst h3
    simp only [F_ref_All, g_ref_All, go_sem, reduceIte, Nat.reduceEqDiff, Nat.reduceAdd, Nat.reduceMul, Nat.reduceSub, reduceCtorEq, Nat.reduceLeDiff, Nat.reduceLT, Int.reduceLT, Int.reduceLE, Int.reduceToNat, Int.reduceAdd, Int.reduceSub, Int.reduceNeg, Int.reduceMul, Int.reduceEq, ← Bool.decide_and, ← Bool.decide_or, ↓tq_n, ↓tq_e, ↓tq_r, ↓bq_n, ↓bq_e, ↓bq_r, ↓rq_n, ↓rq_r, ↓rq_e]
    exact ret_gl (by repeat' first | exact AH.le.refl _ | assumption | (refine AH.le_put ?_ (by first | assumption | exact (AH.blk_put_ne _ _ (by assumption)).trans (by assumption) | exact AH.none_put (by assumption) | exact AH.none_put (AH.none_put (by assumption)) | (simp only [AH.blk_setTok, AH.tok_put] at *; first | assumption | exact AH.none_put (by assumption)))) | (refine AH.le_setTok ?_ (by first | assumption | exact (AH.blk_put_ne _ _ (by assumption)).trans (by assumption) | exact AH.none_put (by assumption) | exact AH.none_put (AH.none_put (by assumption)) | (simp only [AH.blk_setTok, AH.tok_put] at *; first | assumption | exact AH.none_put (by assumption)))) | (refine AH.le_putM ?_ (by first | assumption | exact (AH.mp_putM_ne _ _ (by assumption)).trans (by assumption) | (simp only [AH.mp_put, AH.mp_setTok] at *; assumption))))
end Go.Proofs.Ytgfidbejffhalaa
