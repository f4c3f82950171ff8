/- What the statements say of contradictory sets; fixed calls; the statements that name the reference. No condition. -/
import Derived.Test.YtgfidbejffhalaaD10
import Derived.Test.YtgfidbejffhalaaD5
import Derived.Test.YtgfidbejffhalaaC2
namespace Go.Proofs.Ytgfidbejffhalaa
open Go Go.Abs
set_option linter.unusedSimpArgs false
set_option linter.unusedVariables false
set_option maxRecDepth 20000

section
variable {n : Nat} {a : List (Int × Int)} (he : Ev n a)
include he
theorem good_isB {s : List Int} : isB n a s = true ↔ Good n a s := by
  constructor
  · intro h
    have hs := (isB_of h).2
    rw [(isB_yes he hs).1] at h
    exact ⟨hs, h⟩
  · intro h
    rw [(isB_yes he h.1).1]
    exact h.2
theorem fst_mi {s : List Int} (h : Fst n a s) : miB n a s = true := by
  refine miB_true ((good_isB he).2 h.1) fun i hi => Bool.eq_false_iff.2 fun hc => ?_
  have hg : Good n a (s.eraseIdx i) := ⟨ix_erase h.1.1 i, hc⟩
  have hl : (s.eraseIdx i).length = s.length - 1 := by rw [List.length_eraseIdx, if_pos hi]
  have := h.2 _ hg
  omega
theorem mi_good {s : List Int} (h : miB n a s = true) : Good n a s ∧ ∀ i, i < s.length → cyB n (sub a (s.eraseIdx i)) = false := by
  unfold miB at h
  rw [Bool.and_eq_true, List.all_eq_true] at h
  refine ⟨(good_isB he).1 h.1, fun i hi => ?_⟩
  have := h.2 i (List.mem_range.2 hi)
  simpa using this
/-- Each piece of a minimal set is blamed. -/
theorem mi_bl {s : List Int} (h : miB n a s = true) {x : Int} (hx : x ∈ s) : x ∈ nats (blF a a.length) := by
  obtain ⟨hg, hm⟩ := mi_good he h
  obtain ⟨ks, u, h1, h2, h3⟩ := (cy_iff he hg.1).1 hg.2
  obtain ⟨j, hj, hje⟩ := List.getElem_of_mem hx
  have hx0 := (ix_pw.1 hg.1).1 x hx
  obtain ⟨k, rfl⟩ : ∃ k : Nat, x = k := ⟨x.toNat, by omega⟩
  have hka : k < a.length := by omega
  have hkk : k ∈ ks := Classical.byContradiction fun hn => by
    have : cyB n (sub a (s.eraseIdx j)) = true := (cy_iff he (ix_erase hg.1 j)).2 ⟨ks, u, h1, h2, fun m hm2 => by
      have hms := h3 m hm2
      obtain ⟨q, hq, hqe⟩ := List.getElem_of_mem hms
      have hqj : q ≠ j := fun hh => by
        subst hh
        rw [hje] at hqe
        have : k = m := by omega
        exact hn (this ▸ hm2)
      rw [List.mem_eraseIdx_iff_getElem]
      exact ⟨q, hq, hqj, hqe⟩⟩
    rw [hm j hj] at this
    cases this
  obtain ⟨q, r1, r2⟩ := iw_rot h2 hkk
  refine mem_nats.2 (List.mem_filter.2 ⟨List.mem_range.2 hka, (blP_iff he hka).2 ⟨q, fun hh => ?_, r1⟩⟩)
  subst hh
  exact (ev_k he hka).2.2.2 (Eq.symm r1)
/-- No contradiction: nothing is blamed. -/
theorem bl_nil (h : ∀ t, ¬ Good n a t) : blF a a.length = [] := by
  refine List.filter_eq_nil_iff.2 fun k hk hb => ?_
  rw [List.mem_range] at hk
  obtain ⟨ks, h1, h2⟩ := (blP_iff he hk).1 hb
  have hix := ix_whole a.length
  refine h _ ⟨hix, (cy_iff he hix).2 ⟨k :: ks, fr a k, by simp, ⟨hk, rfl, h2⟩, fun j hj => mem_nats.2 (List.mem_range.2 ?_)⟩⟩
  rcases List.mem_cons.1 hj with rfl | hj
  · exact hk
  · exact iw_lt h2 j hj
theorem good_two {s : List Int} (h : Good n a s) : 2 ≤ s.length := by
  obtain ⟨g, hg⟩ := good_gi he h
  have h1 := (good_ge he hg h).1
  obtain ⟨ks, u, h2, h3⟩ := hg.2.1
  have h0 := hg.1
  cases ks with
  | nil => simp at h3; omega
  | cons k ks =>
    cases ks with
    | nil =>
      have h4 := h2.2.2
      exact absurd (h2.2.1.trans h4.symm) (ev_k he h2.1).2.2.2
    | cons => simp at h3; omega
theorem smV_some {s : List Int} (h : Fst n a s) : smV n a = .tup [.sl false s.length (i64s s) .unk, I 0] := by
  unfold smV
  rw [if_pos he, Int.toNat_natCast]
  cases hs : smF a n with
  | none => exact absurd h.1 (smF_none he hs s)
  | some t => rw [fst_eq (smF_fst he hs) h]
theorem smV_cases : (smV n a = .tup [.sl true 0 [] .full, I 7] ∧ ∀ t, ¬ Good n a t) ∨ ∃ s, smV n a = .tup [.sl false s.length (i64s s) .unk, I 0] ∧ Fst n a s := by
  cases hs : smF a n with
  | none => exact .inl ⟨by simp [smV, he, hs], smF_none he hs⟩
  | some s => exact .inr ⟨s, smV_some he (smF_fst he hs), smF_fst he hs⟩
end
theorem smV_no {n : Int} {a : List (Int × Int)} (h : ¬ Ev n a) : smV n a = .tup [.sl true 0 [] .full, I 1] := by simp [smV, h]

/-! The document's example. -/
def fiveL : List (Int × Int) := [(0, 1), (1, 2), (2, 0), (2, 3), (1, 0)]
theorem five_ev : Ev (4 : Nat) fiveL := by decide
theorem five_two {x y : Int} (h0 : 0 ≤ x) (h1 : x < y) (h2 : y < 5) (hc : cyB 4 (sub fiveL [x, y]) = true) : x = 0 ∧ y = 4 := by
  have : (x = 0 ∨ x = 1 ∨ x = 2 ∨ x = 3) ∧ (y = 1 ∨ y = 2 ∨ y = 3 ∨ y = 4) := by omega
  obtain ⟨rfl | rfl | rfl | rfl, rfl | rfl | rfl | rfl⟩ := this
  all_goals first
    | exact ⟨rfl, rfl⟩
    | (exfalso; omega)
    | (exfalso; revert hc; decide +kernel)
theorem five_fst : Fst 4 fiveL [0, 4] := by
  refine ⟨⟨by decide, by decide +kernel⟩, fun t ht => ?_⟩
  have h2 := good_two five_ev ht
  have hp := ix_pw.1 ht.1
  match t, ht, h2, hp with
  | [x, y], ht, _, hp =>
    have hx := hp.1 x (by simp)
    have hy := hp.1 y (by simp)
    have hxy : x < y := by
      have := hp.2
      simp only [List.pairwise_cons, List.mem_singleton, forall_eq] at this
      exact this.1
    obtain ⟨rfl, rfl⟩ := five_two hx.1 hxy (show y < 5 from hy.2) ht.2
    exact .inr ⟨rfl, by decide⟩
  | x :: y :: z :: t, _, _, _ => exact .inl (by simp)
theorem five_sm : smV 4 fiveL = .tup [.sl false 2 [I 0, I 4] .unk, I 0] := smV_some five_ev five_fst
theorem five_bl : blV 4 fiveL = .tup [.sl false 4 [I 0, I 1, I 2, I 4] .unk, I 0] := by
  have h : ∀ k, k < fiveL.length → blP fiveL k = bt (wr 4 (nxt 4 (sub fiveL (nats (List.range fiveL.length))) fiveL.length) 4) (tt fiveL k) (fr fiveL k) := fun k hk => (bl_bt five_ev hk).symm
  have e : blF fiveL fiveL.length = [0, 1, 2, 4] := by
    have h0 := (h 0 (by decide)).trans (by decide +kernel : _ = true)
    have h1 := (h 1 (by decide)).trans (by decide +kernel : _ = true)
    have h2 := (h 2 (by decide)).trans (by decide +kernel : _ = true)
    have h3 := (h 3 (by decide)).trans (by decide +kernel : _ = false)
    have h4 := (h 4 (by decide)).trans (by decide +kernel : _ = true)
    show (List.range 5).filter (blP fiveL) = _
    have : List.range 5 = [0, 1, 2, 3, 4] := by decide
    rw [this]
    simp [List.filter, h0, h1, h2, h3, h4]
  unfold blV
  rw [if_pos (show Ev (4 : Int) fiveL from five_ev), e]
  rfl
theorem r_law_five (h : AH) : RCall Try.prog n_law_five [] h (.sl false fiveL.length (prs fiveL) .full) := by
  refine RCall.of hm cF_law_five (by simp [g_law_five]) fun hw h' hl => ?_
  simp only [F_law_five, g_law_five, go_sem, reduceIte, Nat.reduceEqDiff, Nat.reduceAdd, Nat.reduceMul, Nat.reduceSub, reduceCtorEq, Nat.reduceLeDiff, Nat.reduceLT, Int.reduceLT, Int.reduceLE, Int.reduceToNat, Int.reduceAdd, Int.reduceSub, Int.reduceNeg, Int.reduceMul, Int.reduceEq, ← Bool.decide_and, ← Bool.decide_or, ↓tq_n, ↓tq_e, ↓tq_r, ↓bq_n, ↓bq_e, ↓bq_r, ↓rq_n, ↓rq_r, ↓rq_e]
  exact ret_ok rfl
theorem r_law_awake (h : AH) : RCall Try.prog n_law_awake [] h (.bool true) := by
  refine RCall.of hm cF_law_awake (by simp [g_law_awake]) fun hw h' hl => ?_
  simp only [F_law_awake, g_law_awake, go_sem, reduceIte, Nat.reduceEqDiff, Nat.reduceAdd, Nat.reduceMul, Nat.reduceSub, reduceCtorEq, Nat.reduceLeDiff, Nat.reduceLT, Int.reduceLT, Int.reduceLE, Int.reduceToNat, Int.reduceAdd, Int.reduceSub, Int.reduceNeg, Int.reduceMul, Int.reduceEq, ← Bool.decide_and, ← Bool.decide_or, ↓tq_n, ↓tq_e, ↓tq_r, ↓bq_n, ↓bq_e, ↓bq_r, ↓rq_n, ↓rq_r, ↓rq_e]
  refine CallG.mk (r_law_five _) ?_
  simp only [F_law_awake, g_law_awake, go_sem, reduceIte, Nat.reduceEqDiff, Nat.reduceAdd, Nat.reduceMul, Nat.reduceSub, reduceCtorEq, Nat.reduceLeDiff, Nat.reduceLT, Int.reduceLT, Int.reduceLE, Int.reduceToNat, Int.reduceAdd, Int.reduceSub, Int.reduceNeg, Int.reduceMul, Int.reduceEq, ← Bool.decide_and, ← Bool.decide_or, ↓tq_n, ↓tq_e, ↓tq_r, ↓bq_n, ↓bq_e, ↓bq_r, ↓rq_n, ↓rq_r, ↓rq_e]
  refine CallG.mk (r_contradiction_Smallest 4 false fiveL .full _) ?_
  rw [five_sm]
  simp only [F_law_awake, g_law_awake, go_sem, reduceIte, Nat.reduceEqDiff, Nat.reduceAdd, Nat.reduceMul, Nat.reduceSub, reduceCtorEq, Nat.reduceLeDiff, Nat.reduceLT, Int.reduceLT, Int.reduceLE, Int.reduceToNat, Int.reduceAdd, Int.reduceSub, Int.reduceNeg, Int.reduceMul, Int.reduceEq, ← Bool.decide_and, ← Bool.decide_or, ↓tq_n, ↓tq_e, ↓tq_r, ↓bq_n, ↓bq_e, ↓bq_r, ↓rq_n, ↓rq_r, ↓rq_e]
  refine CallG.mk (r_law_five _) ?_
  simp only [F_law_awake, g_law_awake, go_sem, reduceIte, Nat.reduceEqDiff, Nat.reduceAdd, Nat.reduceMul, Nat.reduceSub, reduceCtorEq, Nat.reduceLeDiff, Nat.reduceLT, Int.reduceLT, Int.reduceLE, Int.reduceToNat, Int.reduceAdd, Int.reduceSub, Int.reduceNeg, Int.reduceMul, Int.reduceEq, ← Bool.decide_and, ← Bool.decide_or, ↓tq_n, ↓tq_e, ↓tq_r, ↓bq_n, ↓bq_e, ↓bq_r, ↓rq_n, ↓rq_r, ↓rq_e]
  refine CallG.mk (r_contradiction_Blame 4 false fiveL .full _) ?_
  rw [five_bl]
  simp only [F_law_awake, g_law_awake, go_sem, reduceIte, Nat.reduceEqDiff, Nat.reduceAdd, Nat.reduceMul, Nat.reduceSub, reduceCtorEq, Nat.reduceLeDiff, Nat.reduceLT, Int.reduceLT, Int.reduceLE, Int.reduceToNat, Int.reduceAdd, Int.reduceSub, Int.reduceNeg, Int.reduceMul, Int.reduceEq, ← Bool.decide_and, ← Bool.decide_or, ↓tq_n, ↓tq_e, ↓tq_r, ↓bq_n, ↓bq_e, ↓bq_r, ↓rq_n, ↓rq_r, ↓rq_e]
  refine CallG.mk (r_base_Ints false false [0, 4] [0, 4] .unk .full _) ?_
  simp only [F_law_awake, g_law_awake, go_sem, reduceIte, Nat.reduceEqDiff, Nat.reduceAdd, Nat.reduceMul, Nat.reduceSub, reduceCtorEq, Nat.reduceLeDiff, Nat.reduceLT, Int.reduceLT, Int.reduceLE, Int.reduceToNat, Int.reduceAdd, Int.reduceSub, Int.reduceNeg, Int.reduceMul, Int.reduceEq, ← Bool.decide_and, ← Bool.decide_or, ↓tq_n, ↓tq_e, ↓tq_r, ↓bq_n, ↓bq_e, ↓bq_r, ↓rq_n, ↓rq_r, ↓rq_e]
  refine CallG.mk (r_base_Ints false false [0, 1, 2, 4] [0, 1, 2, 4] .unk .full _) ?_
  simp only [F_law_awake, g_law_awake, go_sem, reduceIte, Nat.reduceEqDiff, Nat.reduceAdd, Nat.reduceMul, Nat.reduceSub, reduceCtorEq, Nat.reduceLeDiff, Nat.reduceLT, Int.reduceLT, Int.reduceLE, Int.reduceToNat, Int.reduceAdd, Int.reduceSub, Int.reduceNeg, Int.reduceMul, Int.reduceEq, ← Bool.decide_and, ← Bool.decide_or, ↓tq_n, ↓tq_e, ↓tq_r, ↓bq_n, ↓bq_e, ↓bq_r, ↓rq_n, ↓rq_r, ↓rq_e]
  refine CallG.mk (r_law_five _) ?_
  simp only [F_law_awake, g_law_awake, go_sem, reduceIte, Nat.reduceEqDiff, Nat.reduceAdd, Nat.reduceMul, Nat.reduceSub, reduceCtorEq, Nat.reduceLeDiff, Nat.reduceLT, Int.reduceLT, Int.reduceLE, Int.reduceToNat, Int.reduceAdd, Int.reduceSub, Int.reduceNeg, Int.reduceMul, Int.reduceEq, ← Bool.decide_and, ← Bool.decide_or, ↓tq_n, ↓tq_e, ↓tq_r, ↓bq_n, ↓bq_e, ↓bq_r, ↓rq_n, ↓rq_r, ↓rq_e]
  refine CallG.mk (r_contradiction_Minimal 4 false fiveL .full false [0, 1, 2] .full _) ?_
  have : miB 4 fiveL [0, 1, 2] = true := by decide +kernel
  rw [this]
  simp only [F_law_awake, g_law_awake, go_sem, reduceIte, Nat.reduceEqDiff, Nat.reduceAdd, Nat.reduceMul, Nat.reduceSub, reduceCtorEq, Nat.reduceLeDiff, Nat.reduceLT, Int.reduceLT, Int.reduceLE, Int.reduceToNat, Int.reduceAdd, Int.reduceSub, Int.reduceNeg, Int.reduceMul, Int.reduceEq, ← Bool.decide_and, ← Bool.decide_or, ↓tq_n, ↓tq_e, ↓tq_r, ↓bq_n, ↓bq_e, ↓bq_r, ↓rq_n, ↓rq_r, ↓rq_e]
  exact ret_ok rfl
def fewB (a : List (Int × Int)) : Bool := decide (a.length ≤ 14) || (decide (40 < a.length) && decide (a.length < 60))
theorem few_len {a : List (Int × Int)} (h : fewB a = true) : a.length < 60 := by
  unfold fewB at h
  simp only [Bool.or_eq_true, Bool.and_eq_true, decide_eq_true_eq] at h
  omega
theorem r_law_few (nl : Bool) (a : List (Int × Int)) (tl : Tail) (h : AH) : RCall Try.prog n_law_few [.sl nl a.length (prs a) tl] h (.bool (fewB a)) := by
  refine RCall.of hm cF_law_few (by simp [g_law_few]) fun hw h' hl => ?_
  unfold fewB
  by_cases c1 : a.length ≤ 14
  · have c1' : (a.length : Int) ≤ 14 := by omega
    simp only [c1', F_law_few, g_law_few, go_sem, reduceIte, Nat.reduceEqDiff, Nat.reduceAdd, Nat.reduceMul, Nat.reduceSub, reduceCtorEq, Nat.reduceLeDiff, Nat.reduceLT, Int.reduceLT, Int.reduceLE, Int.reduceToNat, Int.reduceAdd, Int.reduceSub, Int.reduceNeg, Int.reduceMul, Int.reduceEq, ← Bool.decide_and, ← Bool.decide_or, ↓tq_n, ↓tq_e, ↓tq_r, ↓bq_n, ↓bq_e, ↓bq_r, ↓rq_n, ↓rq_r, ↓rq_e]
    exact ret_ok (by simp [c1])
  · have c1' : ¬ (a.length : Int) ≤ 14 := by omega
    by_cases c2 : 40 < a.length
    · have c2' : (40 : Int) < (a.length : Int) := by omega
      by_cases c3 : a.length < 60
      · have c3' : (a.length : Int) < 60 := by omega
        simp only [c1', c2', c3', F_law_few, g_law_few, go_sem, reduceIte, Nat.reduceEqDiff, Nat.reduceAdd, Nat.reduceMul, Nat.reduceSub, reduceCtorEq, Nat.reduceLeDiff, Nat.reduceLT, Int.reduceLT, Int.reduceLE, Int.reduceToNat, Int.reduceAdd, Int.reduceSub, Int.reduceNeg, Int.reduceMul, Int.reduceEq, ← Bool.decide_and, ← Bool.decide_or, ↓tq_n, ↓tq_e, ↓tq_r, ↓bq_n, ↓bq_e, ↓bq_r, ↓rq_n, ↓rq_r, ↓rq_e]
        exact ret_ok (by simp [c1, c2, c3])
      · have c3' : ¬ (a.length : Int) < 60 := by omega
        simp only [c1', c2', c3', F_law_few, g_law_few, go_sem, reduceIte, Nat.reduceEqDiff, Nat.reduceAdd, Nat.reduceMul, Nat.reduceSub, reduceCtorEq, Nat.reduceLeDiff, Nat.reduceLT, Int.reduceLT, Int.reduceLE, Int.reduceToNat, Int.reduceAdd, Int.reduceSub, Int.reduceNeg, Int.reduceMul, Int.reduceEq, ← Bool.decide_and, ← Bool.decide_or, ↓tq_n, ↓tq_e, ↓tq_r, ↓bq_n, ↓bq_e, ↓bq_r, ↓rq_n, ↓rq_r, ↓rq_e]
        exact ret_ok (by simp [c1, c2, c3])
    · have c2' : ¬ (40 : Int) < (a.length : Int) := by omega
      simp only [c1', c2', F_law_few, g_law_few, go_sem, reduceIte, Nat.reduceEqDiff, Nat.reduceAdd, Nat.reduceMul, Nat.reduceSub, reduceCtorEq, Nat.reduceLeDiff, Nat.reduceLT, Int.reduceLT, Int.reduceLE, Int.reduceToNat, Int.reduceAdd, Int.reduceSub, Int.reduceNeg, Int.reduceMul, Int.reduceEq, ← Bool.decide_and, ← Bool.decide_or, ↓tq_n, ↓tq_e, ↓tq_r, ↓bq_n, ↓bq_e, ↓bq_r, ↓rq_n, ↓rq_r, ↓rq_e]
      exact ret_ok (by simp [c1, c2])
theorem r_law_ContradictionSmallest (n : Int) (n1 : Bool) (a : List (Int × Int)) (u1 : Tail) (h : AH) : RCall Try.prog n_law_ContradictionSmallest [I n, .sl n1 a.length (prs a) u1] h (.bool true) := by
  refine RCall.of hm cF_law_ContradictionSmallest (by simp [g_law_ContradictionSmallest]) fun hw h' hl => ?_
  simp only [F_law_ContradictionSmallest, g_law_ContradictionSmallest, go_sem, reduceIte, Nat.reduceEqDiff, Nat.reduceAdd, Nat.reduceMul, Nat.reduceSub, reduceCtorEq, Nat.reduceLeDiff, Nat.reduceLT, Int.reduceLT, Int.reduceLE, Int.reduceToNat, Int.reduceAdd, Int.reduceSub, Int.reduceNeg, Int.reduceMul, Int.reduceEq, ← Bool.decide_and, ← Bool.decide_or, ↓tq_n, ↓tq_e, ↓tq_r, ↓bq_n, ↓bq_e, ↓bq_r, ↓rq_n, ↓rq_r, ↓rq_e]
  refine CallG.mk (r_law_awake _) ?_
  simp only [F_law_ContradictionSmallest, g_law_ContradictionSmallest, go_sem, reduceIte, Nat.reduceEqDiff, Nat.reduceAdd, Nat.reduceMul, Nat.reduceSub, reduceCtorEq, Nat.reduceLeDiff, Nat.reduceLT, Int.reduceLT, Int.reduceLE, Int.reduceToNat, Int.reduceAdd, Int.reduceSub, Int.reduceNeg, Int.reduceMul, Int.reduceEq, ← Bool.decide_and, ← Bool.decide_or, ↓tq_n, ↓tq_e, ↓tq_r, ↓bq_n, ↓bq_e, ↓bq_r, ↓rq_n, ↓rq_r, ↓rq_e]
  refine CallG.mk (r_law_few n1 a u1 _) ?_
  cases hf : fewB a with
  | false =>
    simp only [F_law_ContradictionSmallest, g_law_ContradictionSmallest, go_sem, reduceIte, Nat.reduceEqDiff, Nat.reduceAdd, Nat.reduceMul, Nat.reduceSub, reduceCtorEq, Nat.reduceLeDiff, Nat.reduceLT, Int.reduceLT, Int.reduceLE, Int.reduceToNat, Int.reduceAdd, Int.reduceSub, Int.reduceNeg, Int.reduceMul, Int.reduceEq, ← Bool.decide_and, ← Bool.decide_or, ↓tq_n, ↓tq_e, ↓tq_r, ↓bq_n, ↓bq_e, ↓bq_r, ↓rq_n, ↓rq_r, ↓rq_e]
    refine CallG.mk (r_law_awake _) ?_
    simp only [F_law_ContradictionSmallest, g_law_ContradictionSmallest, go_sem, reduceIte, Nat.reduceEqDiff, Nat.reduceAdd, Nat.reduceMul, Nat.reduceSub, reduceCtorEq, Nat.reduceLeDiff, Nat.reduceLT, Int.reduceLT, Int.reduceLE, Int.reduceToNat, Int.reduceAdd, Int.reduceSub, Int.reduceNeg, Int.reduceMul, Int.reduceEq, ← Bool.decide_and, ← Bool.decide_or, ↓tq_n, ↓tq_e, ↓tq_r, ↓bq_n, ↓bq_e, ↓bq_r, ↓rq_n, ↓rq_r, ↓rq_e]
    exact ret_ok rfl
  | true =>
    simp only [F_law_ContradictionSmallest, g_law_ContradictionSmallest, go_sem, reduceIte, Nat.reduceEqDiff, Nat.reduceAdd, Nat.reduceMul, Nat.reduceSub, reduceCtorEq, Nat.reduceLeDiff, Nat.reduceLT, Int.reduceLT, Int.reduceLE, Int.reduceToNat, Int.reduceAdd, Int.reduceSub, Int.reduceNeg, Int.reduceMul, Int.reduceEq, ← Bool.decide_and, ← Bool.decide_or, ↓tq_n, ↓tq_e, ↓tq_r, ↓bq_n, ↓bq_e, ↓bq_r, ↓rq_n, ↓rq_r, ↓rq_e]
    refine CallG.mk (r_contradiction_Smallest n n1 a u1 _) ?_
    have fin : ∀ (nl1 nl2 : Bool) (t1 t2 : Tail) (s : List Int) (g : AH), RCall Try.prog n_base_Ints [.sl nl1 s.length (i64s s) t1, .sl nl2 s.length (i64s s) t2] g (.bool true) := fun nl1 nl2 t1 t2 s g => by
      have := r_base_Ints nl1 nl2 s s t1 t2 g
      rwa [decide_eq_true rfl] at this
    have hsm : ∃ nl s t e, smV n a = .tup [.sl nl s.length (i64s s) t, I e] := by
      by_cases he : Ev n a
      · obtain ⟨m, rfl⟩ := ev_nat he
        rcases smV_cases he with ⟨h1, _⟩ | ⟨s, h1, _⟩
        · exact ⟨true, [], .full, 7, h1⟩
        · exact ⟨_, s, _, _, h1⟩
      · exact ⟨true, [], .full, 1, smV_no he⟩
    obtain ⟨nl, s, t, e, hsm⟩ := hsm
    rw [hsm]
    simp only [F_law_ContradictionSmallest, g_law_ContradictionSmallest, go_sem, reduceIte, Nat.reduceEqDiff, Nat.reduceAdd, Nat.reduceMul, Nat.reduceSub, reduceCtorEq, Nat.reduceLeDiff, Nat.reduceLT, Int.reduceLT, Int.reduceLE, Int.reduceToNat, Int.reduceAdd, Int.reduceSub, Int.reduceNeg, Int.reduceMul, Int.reduceEq, ← Bool.decide_and, ← Bool.decide_or, ↓tq_n, ↓tq_e, ↓tq_r, ↓bq_n, ↓bq_e, ↓bq_r, ↓rq_n, ↓rq_r, ↓rq_e]
    refine CallG.mk (r_ref_Smallest n n1 a u1 _) ?_
    rw [hsm]
    simp only [F_law_ContradictionSmallest, g_law_ContradictionSmallest, go_sem, reduceIte, Nat.reduceEqDiff, Nat.reduceAdd, Nat.reduceMul, Nat.reduceSub, reduceCtorEq, Nat.reduceLeDiff, Nat.reduceLT, Int.reduceLT, Int.reduceLE, Int.reduceToNat, Int.reduceAdd, Int.reduceSub, Int.reduceNeg, Int.reduceMul, Int.reduceEq, ← Bool.decide_and, ← Bool.decide_or, ↓tq_n, ↓tq_e, ↓tq_r, ↓bq_n, ↓bq_e, ↓bq_r, ↓rq_n, ↓rq_r, ↓rq_e]
    refine CallG.mk (fin nl nl t t s _) ?_
    simp only [F_law_ContradictionSmallest, g_law_ContradictionSmallest, go_sem, reduceIte, Nat.reduceEqDiff, Nat.reduceAdd, Nat.reduceMul, Nat.reduceSub, reduceCtorEq, Nat.reduceLeDiff, Nat.reduceLT, Int.reduceLT, Int.reduceLE, Int.reduceToNat, Int.reduceAdd, Int.reduceSub, Int.reduceNeg, Int.reduceMul, Int.reduceEq, ← Bool.decide_and, ← Bool.decide_or, ↓tq_n, ↓tq_e, ↓tq_r, ↓bq_n, ↓bq_e, ↓bq_r, ↓rq_n, ↓rq_r, ↓rq_e]
    exact ret_ok rfl
theorem r_law_ContradictionLists (n : Int) (n1 : Bool) (a : List (Int × Int)) (u1 : Tail) (h : AH) : RCall Try.prog n_law_ContradictionLists [I n, .sl n1 a.length (prs a) u1] h (.bool true) := by
  refine RCall.of hm cF_law_ContradictionLists (by simp [g_law_ContradictionLists]) fun hw h' hl => ?_
  simp only [F_law_ContradictionLists, g_law_ContradictionLists, go_sem, reduceIte, Nat.reduceEqDiff, Nat.reduceAdd, Nat.reduceMul, Nat.reduceSub, reduceCtorEq, Nat.reduceLeDiff, Nat.reduceLT, Int.reduceLT, Int.reduceLE, Int.reduceToNat, Int.reduceAdd, Int.reduceSub, Int.reduceNeg, Int.reduceMul, Int.reduceEq, ← Bool.decide_and, ← Bool.decide_or, ↓tq_n, ↓tq_e, ↓tq_r, ↓bq_n, ↓bq_e, ↓bq_r, ↓rq_n, ↓rq_r, ↓rq_e]
  refine CallG.mk (r_law_awake _) ?_
  simp only [F_law_ContradictionLists, g_law_ContradictionLists, go_sem, reduceIte, Nat.reduceEqDiff, Nat.reduceAdd, Nat.reduceMul, Nat.reduceSub, reduceCtorEq, Nat.reduceLeDiff, Nat.reduceLT, Int.reduceLT, Int.reduceLE, Int.reduceToNat, Int.reduceAdd, Int.reduceSub, Int.reduceNeg, Int.reduceMul, Int.reduceEq, ← Bool.decide_and, ← Bool.decide_or, ↓tq_n, ↓tq_e, ↓tq_r, ↓bq_n, ↓bq_e, ↓bq_r, ↓rq_n, ↓rq_r, ↓rq_e]
  refine CallG.mk (r_law_few n1 a u1 _) ?_
  cases hf : fewB a with
  | false =>
    simp only [F_law_ContradictionLists, g_law_ContradictionLists, go_sem, reduceIte, Nat.reduceEqDiff, Nat.reduceAdd, Nat.reduceMul, Nat.reduceSub, reduceCtorEq, Nat.reduceLeDiff, Nat.reduceLT, Int.reduceLT, Int.reduceLE, Int.reduceToNat, Int.reduceAdd, Int.reduceSub, Int.reduceNeg, Int.reduceMul, Int.reduceEq, ← Bool.decide_and, ← Bool.decide_or, ↓tq_n, ↓tq_e, ↓tq_r, ↓bq_n, ↓bq_e, ↓bq_r, ↓rq_n, ↓rq_r, ↓rq_e]
    refine CallG.mk (r_law_awake _) ?_
    simp only [F_law_ContradictionLists, g_law_ContradictionLists, go_sem, reduceIte, Nat.reduceEqDiff, Nat.reduceAdd, Nat.reduceMul, Nat.reduceSub, reduceCtorEq, Nat.reduceLeDiff, Nat.reduceLT, Int.reduceLT, Int.reduceLE, Int.reduceToNat, Int.reduceAdd, Int.reduceSub, Int.reduceNeg, Int.reduceMul, Int.reduceEq, ← Bool.decide_and, ← Bool.decide_or, ↓tq_n, ↓tq_e, ↓tq_r, ↓bq_n, ↓bq_e, ↓bq_r, ↓rq_n, ↓rq_r, ↓rq_e]
    exact ret_ok rfl
  | true =>
    have fin : ∀ (nl1 nl2 : Bool) (t1 t2 : Tail) (s : List Int) (g : AH), RCall Try.prog n_base_Ints [.sl nl1 s.length (i64s s) t1, .sl nl2 s.length (i64s s) t2] g (.bool true) := fun nl1 nl2 t1 t2 s g => by
      have := r_base_Ints nl1 nl2 s s t1 t2 g
      rwa [decide_eq_true rfl] at this
    have hbl : ∃ nl s t e, blV n a = .tup [.sl nl s.length (i64s s) t, I e] := by
      by_cases he : Ev n a
      · exact ⟨_, nats (blF a a.length), _, 0, by unfold blV; rw [if_pos he]; rfl⟩
      · exact ⟨true, [], .full, 1, by unfold blV; rw [if_neg he]; rfl⟩
    have hex : ∃ nl s t e, exV n a = .tup [.sl nl s.length (i64s s) t, I e] := by
      by_cases he : Ev n a
      · exact ⟨_, exK n.toNat a a.length, _, 0, by unfold exV; rw [if_pos he]; rfl⟩
      · exact ⟨true, [], .full, 1, by unfold exV; rw [if_neg he]; rfl⟩
    obtain ⟨nl, s, t, e, hbl⟩ := hbl
    obtain ⟨nl2, s2, t2, e2, hex⟩ := hex
    simp only [F_law_ContradictionLists, g_law_ContradictionLists, go_sem, reduceIte, Nat.reduceEqDiff, Nat.reduceAdd, Nat.reduceMul, Nat.reduceSub, reduceCtorEq, Nat.reduceLeDiff, Nat.reduceLT, Int.reduceLT, Int.reduceLE, Int.reduceToNat, Int.reduceAdd, Int.reduceSub, Int.reduceNeg, Int.reduceMul, Int.reduceEq, ← Bool.decide_and, ← Bool.decide_or, ↓tq_n, ↓tq_e, ↓tq_r, ↓bq_n, ↓bq_e, ↓bq_r, ↓rq_n, ↓rq_r, ↓rq_e]
    refine CallG.mk (r_contradiction_Blame n n1 a u1 _) ?_
    rw [hbl]
    simp only [F_law_ContradictionLists, g_law_ContradictionLists, go_sem, reduceIte, Nat.reduceEqDiff, Nat.reduceAdd, Nat.reduceMul, Nat.reduceSub, reduceCtorEq, Nat.reduceLeDiff, Nat.reduceLT, Int.reduceLT, Int.reduceLE, Int.reduceToNat, Int.reduceAdd, Int.reduceSub, Int.reduceNeg, Int.reduceMul, Int.reduceEq, ← Bool.decide_and, ← Bool.decide_or, ↓tq_n, ↓tq_e, ↓tq_r, ↓bq_n, ↓bq_e, ↓bq_r, ↓rq_n, ↓rq_r, ↓rq_e]
    refine CallG.mk (r_contradiction_Extend n n1 a u1 _) ?_
    rw [hex]
    simp only [F_law_ContradictionLists, g_law_ContradictionLists, go_sem, reduceIte, Nat.reduceEqDiff, Nat.reduceAdd, Nat.reduceMul, Nat.reduceSub, reduceCtorEq, Nat.reduceLeDiff, Nat.reduceLT, Int.reduceLT, Int.reduceLE, Int.reduceToNat, Int.reduceAdd, Int.reduceSub, Int.reduceNeg, Int.reduceMul, Int.reduceEq, ← Bool.decide_and, ← Bool.decide_or, ↓tq_n, ↓tq_e, ↓tq_r, ↓bq_n, ↓bq_e, ↓bq_r, ↓rq_n, ↓rq_r, ↓rq_e]
    refine CallG.mk (r_ref_Blame n n1 a u1 _) ?_
    rw [hbl]
    simp only [F_law_ContradictionLists, g_law_ContradictionLists, go_sem, reduceIte, Nat.reduceEqDiff, Nat.reduceAdd, Nat.reduceMul, Nat.reduceSub, reduceCtorEq, Nat.reduceLeDiff, Nat.reduceLT, Int.reduceLT, Int.reduceLE, Int.reduceToNat, Int.reduceAdd, Int.reduceSub, Int.reduceNeg, Int.reduceMul, Int.reduceEq, ← Bool.decide_and, ← Bool.decide_or, ↓tq_n, ↓tq_e, ↓tq_r, ↓bq_n, ↓bq_e, ↓bq_r, ↓rq_n, ↓rq_r, ↓rq_e]
    refine CallG.mk (r_ref_Extend n n1 a u1 _) ?_
    rw [hex]
    simp only [F_law_ContradictionLists, g_law_ContradictionLists, go_sem, reduceIte, Nat.reduceEqDiff, Nat.reduceAdd, Nat.reduceMul, Nat.reduceSub, reduceCtorEq, Nat.reduceLeDiff, Nat.reduceLT, Int.reduceLT, Int.reduceLE, Int.reduceToNat, Int.reduceAdd, Int.reduceSub, Int.reduceNeg, Int.reduceMul, Int.reduceEq, ← Bool.decide_and, ← Bool.decide_or, ↓tq_n, ↓tq_e, ↓tq_r, ↓bq_n, ↓bq_e, ↓bq_r, ↓rq_n, ↓rq_r, ↓rq_e]
    refine CallG.mk (fin nl nl t t s _) ?_
    simp only [F_law_ContradictionLists, g_law_ContradictionLists, go_sem, reduceIte, Nat.reduceEqDiff, Nat.reduceAdd, Nat.reduceMul, Nat.reduceSub, reduceCtorEq, Nat.reduceLeDiff, Nat.reduceLT, Int.reduceLT, Int.reduceLE, Int.reduceToNat, Int.reduceAdd, Int.reduceSub, Int.reduceNeg, Int.reduceMul, Int.reduceEq, ← Bool.decide_and, ← Bool.decide_or, ↓tq_n, ↓tq_e, ↓tq_r, ↓bq_n, ↓bq_e, ↓bq_r, ↓rq_n, ↓rq_r, ↓rq_e]
    refine CallG.mk (fin nl2 nl2 t2 t2 s2 _) ?_
    simp only [F_law_ContradictionLists, g_law_ContradictionLists, go_sem, reduceIte, Nat.reduceEqDiff, Nat.reduceAdd, Nat.reduceMul, Nat.reduceSub, reduceCtorEq, Nat.reduceLeDiff, Nat.reduceLT, Int.reduceLT, Int.reduceLE, Int.reduceToNat, Int.reduceAdd, Int.reduceSub, Int.reduceNeg, Int.reduceMul, Int.reduceEq, ← Bool.decide_and, ← Bool.decide_or, ↓tq_n, ↓tq_e, ↓tq_r, ↓bq_n, ↓bq_e, ↓bq_r, ↓rq_n, ↓rq_r, ↓rq_e]
    exact ret_ok rfl
theorem r_law_ContradictionSets (n : Int) (n1 : Bool) (a : List (Int × Int)) (u1 : Tail) (n2 : Bool) (s : List Int) (u2 : Tail) (h : AH) : RCall Try.prog n_law_ContradictionSets [I n, .sl n1 a.length (prs a) u1, .sl n2 s.length (i64s s) u2] h (.bool true) := by
  refine RCall.of hm cF_law_ContradictionSets (by simp [g_law_ContradictionSets]) fun hw h' hl => ?_
  simp only [F_law_ContradictionSets, g_law_ContradictionSets, go_sem, reduceIte, Nat.reduceEqDiff, Nat.reduceAdd, Nat.reduceMul, Nat.reduceSub, reduceCtorEq, Nat.reduceLeDiff, Nat.reduceLT, Int.reduceLT, Int.reduceLE, Int.reduceToNat, Int.reduceAdd, Int.reduceSub, Int.reduceNeg, Int.reduceMul, Int.reduceEq, ← Bool.decide_and, ← Bool.decide_or, ↓tq_n, ↓tq_e, ↓tq_r, ↓bq_n, ↓bq_e, ↓bq_r, ↓rq_n, ↓rq_r, ↓rq_e]
  refine CallG.mk (r_law_awake _) ?_
  simp only [F_law_ContradictionSets, g_law_ContradictionSets, go_sem, reduceIte, Nat.reduceEqDiff, Nat.reduceAdd, Nat.reduceMul, Nat.reduceSub, reduceCtorEq, Nat.reduceLeDiff, Nat.reduceLT, Int.reduceLT, Int.reduceLE, Int.reduceToNat, Int.reduceAdd, Int.reduceSub, Int.reduceNeg, Int.reduceMul, Int.reduceEq, ← Bool.decide_and, ← Bool.decide_or, ↓tq_n, ↓tq_e, ↓tq_r, ↓bq_n, ↓bq_e, ↓bq_r, ↓rq_n, ↓rq_r, ↓rq_e]
  refine CallG.mk (r_law_few n1 a u1 _) ?_
  cases hf : fewB a with
  | false =>
    simp only [F_law_ContradictionSets, g_law_ContradictionSets, go_sem, reduceIte, Nat.reduceEqDiff, Nat.reduceAdd, Nat.reduceMul, Nat.reduceSub, reduceCtorEq, Nat.reduceLeDiff, Nat.reduceLT, Int.reduceLT, Int.reduceLE, Int.reduceToNat, Int.reduceAdd, Int.reduceSub, Int.reduceNeg, Int.reduceMul, Int.reduceEq, ← Bool.decide_and, ← Bool.decide_or, ↓tq_n, ↓tq_e, ↓tq_r, ↓bq_n, ↓bq_e, ↓bq_r, ↓rq_n, ↓rq_r, ↓rq_e]
    refine CallG.mk (r_law_awake _) ?_
    simp only [F_law_ContradictionSets, g_law_ContradictionSets, go_sem, reduceIte, Nat.reduceEqDiff, Nat.reduceAdd, Nat.reduceMul, Nat.reduceSub, reduceCtorEq, Nat.reduceLeDiff, Nat.reduceLT, Int.reduceLT, Int.reduceLE, Int.reduceToNat, Int.reduceAdd, Int.reduceSub, Int.reduceNeg, Int.reduceMul, Int.reduceEq, ← Bool.decide_and, ← Bool.decide_or, ↓tq_n, ↓tq_e, ↓tq_r, ↓bq_n, ↓bq_e, ↓bq_r, ↓rq_n, ↓rq_r, ↓rq_e]
    exact ret_ok rfl
  | true =>
    by_cases c1 : (60 : Int) < (s.length : Int)
    · simp only [c1, F_law_ContradictionSets, g_law_ContradictionSets, go_sem, reduceIte, Nat.reduceEqDiff, Nat.reduceAdd, Nat.reduceMul, Nat.reduceSub, reduceCtorEq, Nat.reduceLeDiff, Nat.reduceLT, Int.reduceLT, Int.reduceLE, Int.reduceToNat, Int.reduceAdd, Int.reduceSub, Int.reduceNeg, Int.reduceMul, Int.reduceEq, ← Bool.decide_and, ← Bool.decide_or, ↓tq_n, ↓tq_e, ↓tq_r, ↓bq_n, ↓bq_e, ↓bq_r, ↓rq_n, ↓rq_r, ↓rq_e]
      refine CallG.mk (r_law_awake _) ?_
      simp only [F_law_ContradictionSets, g_law_ContradictionSets, go_sem, reduceIte, Nat.reduceEqDiff, Nat.reduceAdd, Nat.reduceMul, Nat.reduceSub, reduceCtorEq, Nat.reduceLeDiff, Nat.reduceLT, Int.reduceLT, Int.reduceLE, Int.reduceToNat, Int.reduceAdd, Int.reduceSub, Int.reduceNeg, Int.reduceMul, Int.reduceEq, ← Bool.decide_and, ← Bool.decide_or, ↓tq_n, ↓tq_e, ↓tq_r, ↓bq_n, ↓bq_e, ↓bq_r, ↓rq_n, ↓rq_r, ↓rq_e]
      exact ret_ok rfl
    have hal := few_len hf
    simp only [c1, F_law_ContradictionSets, g_law_ContradictionSets, go_sem, reduceIte, Nat.reduceEqDiff, Nat.reduceAdd, Nat.reduceMul, Nat.reduceSub, reduceCtorEq, Nat.reduceLeDiff, Nat.reduceLT, Int.reduceLT, Int.reduceLE, Int.reduceToNat, Int.reduceAdd, Int.reduceSub, Int.reduceNeg, Int.reduceMul, Int.reduceEq, ← Bool.decide_and, ← Bool.decide_or, ↓tq_n, ↓tq_e, ↓tq_r, ↓bq_n, ↓bq_e, ↓bq_r, ↓rq_n, ↓rq_r, ↓rq_e]
    refine ⟨by rw [prs_len], by omega, by omega, TokG.mk fun t1 ht1 => ?_⟩
    simp only [F_law_ContradictionSets, g_law_ContradictionSets, go_sem, reduceIte, Nat.reduceEqDiff, Nat.reduceAdd, Nat.reduceMul, Nat.reduceSub, reduceCtorEq, Nat.reduceLeDiff, Nat.reduceLT, Int.reduceLT, Int.reduceLE, Int.reduceToNat, Int.reduceAdd, Int.reduceSub, Int.reduceNeg, Int.reduceMul, Int.reduceEq, ← Bool.decide_and, ← Bool.decide_or, ↓tq_n, ↓tq_e, ↓tq_r, ↓bq_n, ↓bq_e, ↓bq_r, ↓rq_n, ↓rq_r, ↓rq_e]
    refine ⟨by rw [i64s_len], by omega, by omega, TokG.mk fun t2 ht2 => ?_⟩
    simp only [F_law_ContradictionSets, g_law_ContradictionSets, go_sem, reduceIte, Nat.reduceEqDiff, Nat.reduceAdd, Nat.reduceMul, Nat.reduceSub, reduceCtorEq, Nat.reduceLeDiff, Nat.reduceLT, Int.reduceLT, Int.reduceLE, Int.reduceToNat, Int.reduceAdd, Int.reduceSub, Int.reduceNeg, Int.reduceMul, Int.reduceEq, ← Bool.decide_and, ← Bool.decide_or, ↓tq_n, ↓tq_e, ↓tq_r, ↓bq_n, ↓bq_e, ↓bq_r, ↓rq_n, ↓rq_r, ↓rq_e]
    refine CallG.mk (r_contradiction_Valid n false a (.tok t1) _) ?_
    simp only [F_law_ContradictionSets, g_law_ContradictionSets, go_sem, reduceIte, Nat.reduceEqDiff, Nat.reduceAdd, Nat.reduceMul, Nat.reduceSub, reduceCtorEq, Nat.reduceLeDiff, Nat.reduceLT, Int.reduceLT, Int.reduceLE, Int.reduceToNat, Int.reduceAdd, Int.reduceSub, Int.reduceNeg, Int.reduceMul, Int.reduceEq, ← Bool.decide_and, ← Bool.decide_or, ↓tq_n, ↓tq_e, ↓tq_r, ↓bq_n, ↓bq_e, ↓bq_r, ↓rq_n, ↓rq_r, ↓rq_e]
    refine CallG.mk (r_ref_Valid n n1 a u1 _) ?_
    simp only [beq_self_eq_true, F_law_ContradictionSets, g_law_ContradictionSets, go_sem, reduceIte, Nat.reduceEqDiff, Nat.reduceAdd, Nat.reduceMul, Nat.reduceSub, reduceCtorEq, Nat.reduceLeDiff, Nat.reduceLT, Int.reduceLT, Int.reduceLE, Int.reduceToNat, Int.reduceAdd, Int.reduceSub, Int.reduceNeg, Int.reduceMul, Int.reduceEq, ← Bool.decide_and, ← Bool.decide_or, ↓tq_n, ↓tq_e, ↓tq_r, ↓bq_n, ↓bq_e, ↓bq_r, ↓rq_n, ↓rq_r, ↓rq_e]
    refine CallG.mk (r_contradiction_Is n false a (.tok t1) false s (.tok t2) _) ?_
    simp only [F_law_ContradictionSets, g_law_ContradictionSets, go_sem, reduceIte, Nat.reduceEqDiff, Nat.reduceAdd, Nat.reduceMul, Nat.reduceSub, reduceCtorEq, Nat.reduceLeDiff, Nat.reduceLT, Int.reduceLT, Int.reduceLE, Int.reduceToNat, Int.reduceAdd, Int.reduceSub, Int.reduceNeg, Int.reduceMul, Int.reduceEq, ← Bool.decide_and, ← Bool.decide_or, ↓tq_n, ↓tq_e, ↓tq_r, ↓bq_n, ↓bq_e, ↓bq_r, ↓rq_n, ↓rq_r, ↓rq_e]
    refine CallG.mk (r_ref_Is n n1 a u1 n2 s u2 _) ?_
    simp only [beq_self_eq_true, F_law_ContradictionSets, g_law_ContradictionSets, go_sem, reduceIte, Nat.reduceEqDiff, Nat.reduceAdd, Nat.reduceMul, Nat.reduceSub, reduceCtorEq, Nat.reduceLeDiff, Nat.reduceLT, Int.reduceLT, Int.reduceLE, Int.reduceToNat, Int.reduceAdd, Int.reduceSub, Int.reduceNeg, Int.reduceMul, Int.reduceEq, ← Bool.decide_and, ← Bool.decide_or, ↓tq_n, ↓tq_e, ↓tq_r, ↓bq_n, ↓bq_e, ↓bq_r, ↓rq_n, ↓rq_r, ↓rq_e]
    refine CallG.mk (r_contradiction_Minimal n false a (.tok t1) false s (.tok t2) _) ?_
    simp only [F_law_ContradictionSets, g_law_ContradictionSets, go_sem, reduceIte, Nat.reduceEqDiff, Nat.reduceAdd, Nat.reduceMul, Nat.reduceSub, reduceCtorEq, Nat.reduceLeDiff, Nat.reduceLT, Int.reduceLT, Int.reduceLE, Int.reduceToNat, Int.reduceAdd, Int.reduceSub, Int.reduceNeg, Int.reduceMul, Int.reduceEq, ← Bool.decide_and, ← Bool.decide_or, ↓tq_n, ↓tq_e, ↓tq_r, ↓bq_n, ↓bq_e, ↓bq_r, ↓rq_n, ↓rq_r, ↓rq_e]
    refine CallG.mk (r_ref_Minimal n n1 a u1 n2 s u2 _) ?_
    simp only [beq_self_eq_true, F_law_ContradictionSets, g_law_ContradictionSets, go_sem, reduceIte, Nat.reduceEqDiff, Nat.reduceAdd, Nat.reduceMul, Nat.reduceSub, reduceCtorEq, Nat.reduceLeDiff, Nat.reduceLT, Int.reduceLT, Int.reduceLE, Int.reduceToNat, Int.reduceAdd, Int.reduceSub, Int.reduceNeg, Int.reduceMul, Int.reduceEq, ← Bool.decide_and, ← Bool.decide_or, ↓tq_n, ↓tq_e, ↓tq_r, ↓bq_n, ↓bq_e, ↓bq_r, ↓rq_n, ↓rq_r, ↓rq_e]
    refine CallG.mk (r_contradiction_Agrees n false a (.tok t1) false s (.tok t2) _) ?_
    simp only [F_law_ContradictionSets, g_law_ContradictionSets, go_sem, reduceIte, Nat.reduceEqDiff, Nat.reduceAdd, Nat.reduceMul, Nat.reduceSub, reduceCtorEq, Nat.reduceLeDiff, Nat.reduceLT, Int.reduceLT, Int.reduceLE, Int.reduceToNat, Int.reduceAdd, Int.reduceSub, Int.reduceNeg, Int.reduceMul, Int.reduceEq, ← Bool.decide_and, ← Bool.decide_or, ↓tq_n, ↓tq_e, ↓tq_r, ↓bq_n, ↓bq_e, ↓bq_r, ↓rq_n, ↓rq_r, ↓rq_e]
    refine CallG.mk (r_ref_Agrees n n1 a u1 n2 s u2 _) ?_
    simp only [beq_self_eq_true, F_law_ContradictionSets, g_law_ContradictionSets, go_sem, reduceIte, Nat.reduceEqDiff, Nat.reduceAdd, Nat.reduceMul, Nat.reduceSub, reduceCtorEq, Nat.reduceLeDiff, Nat.reduceLT, Int.reduceLT, Int.reduceLE, Int.reduceToNat, Int.reduceAdd, Int.reduceSub, Int.reduceNeg, Int.reduceMul, Int.reduceEq, ← Bool.decide_and, ← Bool.decide_or, ↓tq_n, ↓tq_e, ↓tq_r, ↓bq_n, ↓bq_e, ↓bq_r, ↓rq_n, ↓rq_r, ↓rq_e]
    refine CallG.mk (r_base_Arcs false a (.tok t1) n1 a u1 _) ?_
    simp only [F_law_ContradictionSets, g_law_ContradictionSets, go_sem, reduceIte, Nat.reduceEqDiff, Nat.reduceAdd, Nat.reduceMul, Nat.reduceSub, reduceCtorEq, Nat.reduceLeDiff, Nat.reduceLT, Int.reduceLT, Int.reduceLE, Int.reduceToNat, Int.reduceAdd, Int.reduceSub, Int.reduceNeg, Int.reduceMul, Int.reduceEq, ← Bool.decide_and, ← Bool.decide_or, ↓tq_n, ↓tq_e, ↓tq_r, ↓bq_n, ↓bq_e, ↓bq_r, ↓rq_n, ↓rq_r, ↓rq_e]
    refine CallG.mk (r_base_Ints false n2 s s (.tok t2) u2 _) ?_
    simp only [F_law_ContradictionSets, g_law_ContradictionSets, go_sem, reduceIte, Nat.reduceEqDiff, Nat.reduceAdd, Nat.reduceMul, Nat.reduceSub, reduceCtorEq, Nat.reduceLeDiff, Nat.reduceLT, Int.reduceLT, Int.reduceLE, Int.reduceToNat, Int.reduceAdd, Int.reduceSub, Int.reduceNeg, Int.reduceMul, Int.reduceEq, ← Bool.decide_and, ← Bool.decide_or, ↓tq_n, ↓tq_e, ↓tq_r, ↓bq_n, ↓bq_e, ↓bq_r, ↓rq_n, ↓rq_r, ↓rq_e]
    exact ret_hb ((AH.le_setTok (AH.le.refl _) ht1).trans (AH.le_setTok (AH.le.refl _) ht2)) rfl
end Go.Proofs.Ytgfidbejffhalaa
