/- Calls of functions of this seat's program: the order of hoards. No condition. -/
import Derived.Test.YtnekkkjedmlloaaH4
import Derived.Test.YtnekkkjedmlloaaC3
namespace Go.Proofs.Ytnekkkjedmlloaa
open Go Go.Abs
set_option linter.unusedSimpArgs false
set_option linter.unusedVariables false
set_option maxRecDepth 20000

theorem r_cmp_isNaN_int (a : Int) (h : AH) : RCall Try.prog n_cmp_isNaN_int [I a] h (.bool false) := by
  refine RCall.of hm cF_cmp_isNaN_int (by simp [g_cmp_isNaN_int]) fun hw h' hl => ?_
  simp only [F_cmp_isNaN_int, g_cmp_isNaN_int, go_sem, reduceIte, Nat.reduceEqDiff, Nat.reduceAdd, Nat.reduceMul, Nat.reduceSub, reduceCtorEq, Nat.reduceLeDiff, Nat.reduceLT, Int.reduceLT, Int.reduceLE, Int.reduceToNat, Int.reduceAdd, Int.reduceSub, Int.reduceNeg, Int.reduceMul, Int.reduceEq, ← Bool.decide_and, ← Bool.decide_or, ↓tq_n, ↓tq_e, ↓tq_r, ↓bq_n, ↓bq_e, ↓bq_r, ↓rq_n, ↓rq_r, ↓rq_e]
  exact ret_ok (by simp)
/-- How two numbers compare. -/
def cmpI (a b : Int) : Int := if a < b then -1 else if b < a then 1 else 0
theorem r_cmp_Compare_int (a b : Int) (h : AH) : RCall Try.prog n_cmp_Compare_int [I a, I b] h (I (cmpI a b)) := by
  refine RCall.of hm cF_cmp_Compare_int (by simp [g_cmp_Compare_int]) fun hw h' hl => ?_
  simp only [F_cmp_Compare_int, g_cmp_Compare_int, go_sem, reduceIte, Nat.reduceEqDiff, Nat.reduceAdd, Nat.reduceMul, Nat.reduceSub, reduceCtorEq, Nat.reduceLeDiff, Nat.reduceLT, Int.reduceLT, Int.reduceLE, Int.reduceToNat, Int.reduceAdd, Int.reduceSub, Int.reduceNeg, Int.reduceMul, Int.reduceEq, ← Bool.decide_and, ← Bool.decide_or, ↓tq_n, ↓tq_e, ↓tq_r, ↓bq_n, ↓bq_e, ↓bq_r, ↓rq_n, ↓rq_r, ↓rq_e]
  refine CallG.mk (r_cmp_isNaN_int a _) ?_
  simp only [F_cmp_Compare_int, g_cmp_Compare_int, go_sem, reduceIte, Nat.reduceEqDiff, Nat.reduceAdd, Nat.reduceMul, Nat.reduceSub, reduceCtorEq, Nat.reduceLeDiff, Nat.reduceLT, Int.reduceLT, Int.reduceLE, Int.reduceToNat, Int.reduceAdd, Int.reduceSub, Int.reduceNeg, Int.reduceMul, Int.reduceEq, ← Bool.decide_and, ← Bool.decide_or, ↓tq_n, ↓tq_e, ↓tq_r, ↓bq_n, ↓bq_e, ↓bq_r, ↓rq_n, ↓rq_r, ↓rq_e]
  refine CallG.mk (r_cmp_isNaN_int b _) ?_
  simp only [F_cmp_Compare_int, g_cmp_Compare_int, go_sem, reduceIte, Nat.reduceEqDiff, Nat.reduceAdd, Nat.reduceMul, Nat.reduceSub, reduceCtorEq, Nat.reduceLeDiff, Nat.reduceLT, Int.reduceLT, Int.reduceLE, Int.reduceToNat, Int.reduceAdd, Int.reduceSub, Int.reduceNeg, Int.reduceMul, Int.reduceEq, ← Bool.decide_and, ← Bool.decide_or, ↓tq_n, ↓tq_e, ↓tq_r, ↓bq_n, ↓bq_e, ↓bq_r, ↓rq_n, ↓rq_r, ↓rq_e]
  refine ⟨fun h1 => ret_ok (by simp [cmpI, h1]), fun h1 => ⟨fun h2 => ret_ok ?_, fun h2 => ret_ok ?_⟩⟩
  · have : ¬ a < b := h1
    simp [cmpI, h1, h2]
  · simp [cmpI, h1, h2]
theorem r_burial_Order_1 (a b : Nat) (y : List Int) (n : Nat) (tl : Tail) (hn : n = y.length) (ha : a < n) (hb : b < n) (h : AH) :
    RCall Try.prog n_burial_Order_1 [I a, I b, .sptr [gl (i64s y) n tl]] h (I (cmpI (y.getD a 0) (y.getD b 0))) := by
  refine RCall.of hm cF_burial_Order_1 (by simp [g_burial_Order_1]) fun hw h' hl => ?_
  subst hn
  have h1 : (a : Int) < (y.length : Int) := by omega
  have h2 : (b : Int) < (y.length : Int) := by omega
  simp only [h1, h2, i64s_drop ha, i64s_drop hb, F_burial_Order_1, g_burial_Order_1, go_sem, reduceIte, Nat.reduceEqDiff, Nat.reduceAdd, Nat.reduceMul, Nat.reduceSub, reduceCtorEq, Nat.reduceLeDiff, Nat.reduceLT, Int.reduceLT, Int.reduceLE, Int.reduceToNat, Int.reduceAdd, Int.reduceSub, Int.reduceNeg, Int.reduceMul, Int.reduceEq, ← Bool.decide_and, ← Bool.decide_or, ↓tq_n, ↓tq_e, ↓tq_r, ↓bq_n, ↓bq_e, ↓bq_r, ↓rq_n, ↓rq_r, ↓rq_e]
  refine CallG.mk (r_cmp_Compare_int _ _ _) ?_
  simp only [F_burial_Order_1, g_burial_Order_1, go_sem, reduceIte, Nat.reduceEqDiff, Nat.reduceAdd, Nat.reduceMul, Nat.reduceSub, reduceCtorEq, Nat.reduceLeDiff, Nat.reduceLT, Int.reduceLT, Int.reduceLE, Int.reduceToNat, Int.reduceAdd, Int.reduceSub, Int.reduceNeg, Int.reduceMul, Int.reduceEq, ← Bool.decide_and, ← Bool.decide_or, ↓tq_n, ↓tq_e, ↓tq_r, ↓bq_n, ↓bq_e, ↓bq_r, ↓rq_n, ↓rq_r, ↓rq_e]
  exact ret_ok rfl

theorem getD_mid {α : Type} (d : α) (a b : List α) (x : α) : (a ++ x :: b).getD a.length d = x := by simp [List.getD]
/-- The list while element i is moved down to place j. -/
def midL (out : List Nat) (i j : Nat) (rest : List Nat) : List Nat := out.take j ++ i :: (out.drop j ++ rest)
theorem midL_len {out rest : List Nat} {i j : Nat} (hj : j ≤ out.length) : (midL out i j rest).length = out.length + 1 + rest.length := by
  simp only [midL, List.length_append, List.length_take, List.length_cons, List.length_drop]; omega
theorem midL_at {out rest : List Nat} {i j : Nat} (hj : j ≤ out.length) : (midL out i j rest).getD j 0 = i := by
  have := getD_mid 0 (out.take j) (out.drop j ++ rest) i
  rw [List.length_take, Nat.min_eq_left hj] at this
  exact this
theorem midL_prev {out rest : List Nat} {i j : Nat} (hj : j < out.length) : (midL out i (j + 1) rest).getD j 0 = out.getD j 0 := by
  simp only [midL, List.getD]
  rw [List.getElem?_append_left (by rw [List.length_take]; omega), List.getElem?_take, if_pos (by omega)]
theorem midL_swap {out rest : List Nat} {i j : Nat} (hj : j < out.length) : ((midL out i (j + 1) rest).set (j + 1) (out.getD j 0)).set j i = midL out i j rest := by
  have ht : out.take (j + 1) = out.take j ++ [out.getD j 0] := take_getD 0 hj
  have hd : out.drop j = out.getD j 0 :: out.drop (j + 1) := getD_drop out 0 hj
  have hl : (out.take j).length = j := by rw [List.length_take]; omega
  unfold midL
  rw [ht, hd, List.append_assoc, List.set_append_right _ _ (by omega), hl, show j + 1 - j = 1 by omega]
  simp only [List.singleton_append, List.set_cons_succ, List.set_cons_zero]
  rw [List.set_append_right _ _ (by omega), hl, Nat.sub_self]
  simp
theorem nats_set (l : List Nat) (j x : Nat) : nats (l.set j x) = (nats l).set j (x : Int) := by simp [nats, List.map_set]
theorem i64s_set (l : List Int) (j : Nat) (x : Int) : i64s (l.set j x) = (i64s l).set j (I x) := by simp [i64s, List.map_set]

set_option maxHeartbeats 1000000 in
/-- Insertion, the list's numbers being 0, 1, .. at first. -/
theorem s_insertion {f : FuncId} {caps : List AV} {y : List Int} {n : Nat} {cap : Option Nat} (hf : ∀ (a b : Nat) h, a < n → b < n → RCall Try.prog f ([I a, I b] ++ caps) h (I (cmpI (y.getD a 0) (y.getD b 0)))) (hn1 : 1 ≤ n) (hn : n ≤ 1000)
    {h : AH} {b : Nat} {more : List AV} (hb : h.blk b = some (i64s (nats (List.range n)) ++ more)) :
    ACalls Try.prog n_slices_insertionSortCmpFunc_intW [.msl b 0 n cap, I 0, I n, .fn f caps] h fun r h' => r = .tup [] ∧ h' = h.put b (i64s (nats (ordL y n)) ++ more) := by
  refine ACalls.of hm cF_slices_insertionSortCmpFunc_intW (by simp [g_slices_insertionSortCmpFunc_intW]) fun hw => ?_
  simp only [F_slices_insertionSortCmpFunc_intW, g_slices_insertionSortCmpFunc_intW, go_sem, reduceIte, Nat.reduceEqDiff, Nat.reduceAdd, Nat.reduceMul, Nat.reduceSub, reduceCtorEq, Nat.reduceLeDiff, Nat.reduceLT, Int.reduceLT, Int.reduceLE, Int.reduceToNat, Int.reduceAdd, Int.reduceSub, Int.reduceNeg, Int.reduceMul, Int.reduceEq, ← Bool.decide_and, ← Bool.decide_or, ↓tq_n, ↓tq_e, ↓tq_r, ↓bq_n, ↓bq_e, ↓bq_r, ↓rq_n, ↓rq_r, ↓rq_e]
  refine ⟨by rw [inR64]; omega, ?_⟩
  obtain ⟨R, hR⟩ : ∃ R : Nat → List Nat, R = fun i => (List.range n).drop i := ⟨_, rfl⟩
  have hRd : ∀ i, i < n → R i = i :: R (i + 1) := fun i hi => by
    rw [hR]
    simp only
    rw [List.drop_eq_getElem_cons (by simpa using hi)]
    simp
  have hRl : ∀ i, (R i).length = n - i := fun i => by rw [hR]; simp
  have h01 : ordL y 1 = [0] := by simp [ordL, ins, cut]
  have hR0 : List.range n = ordL y 1 ++ R 1 := by
    have := hRd 0 (by omega)
    rw [h01]
    show List.range n = 0 :: R 1
    rw [← this, hR]; rfl
  refine awp_loop (fun i : Nat => [(0, .msl b 0 n cap), (1, I 0), (2, I n), (3, .fn f caps), (8, I i)]) (fun i => h.put b (i64s (nats (ordL y i ++ R i)) ++ more)) (fun i => 1 ≤ i ∧ i ≤ n) (fun i => n - i) 1 ⟨Nat.le_refl _, hn1⟩ ?_ fun i hi => .of_vg hm ?_
  · rw [← hR0, AH.put_same hb]
    exact (GStep.forget (by repeat' first | exact EnvLe.nil _ | refine EnvLe.cons (AV.le.of_eq rfl) ?_ | refine EnvLe.cons (AV.le.undef _) ?_ | refine EnvLe.cons AV.le.unk ?_) (by repeat' first | exact AH.le.refl _ | assumption | (refine AH.le_put ?_ (by first | assumption | exact (AH.blk_put_ne _ _ (by assumption)).trans (by assumption) | exact AH.none_put (by assumption) | exact AH.none_put (AH.none_put (by assumption)) | (simp only [AH.blk_setTok, AH.tok_put] at *; first | assumption | exact AH.none_put (by assumption)))) | (refine AH.le_setTok ?_ (by first | assumption | exact (AH.blk_put_ne _ _ (by assumption)).trans (by assumption) | exact AH.none_put (by assumption) | exact AH.none_put (AH.none_put (by assumption)) | (simp only [AH.blk_setTok, AH.tok_put] at *; first | assumption | exact AH.none_put (by assumption)))) | (refine AH.le_putM ?_ (by first | assumption | exact (AH.mp_putM_ne _ _ (by assumption)).trans (by assumption) | (simp only [AH.mp_put, AH.mp_setTok] at *; assumption)))))
  obtain ⟨h1, h2⟩ := hi
  by_cases h3 : i < n
  · have hc : (i : Int) < (n : Int) := by omega
    have hol := ordL_len y i
    simp only [hc, F_slices_insertionSortCmpFunc_intW, g_slices_insertionSortCmpFunc_intW, go_sem, reduceIte, Nat.reduceEqDiff, Nat.reduceAdd, Nat.reduceMul, Nat.reduceSub, reduceCtorEq, Nat.reduceLeDiff, Nat.reduceLT, Int.reduceLT, Int.reduceLE, Int.reduceToNat, Int.reduceAdd, Int.reduceSub, Int.reduceNeg, Int.reduceMul, Int.reduceEq, ← Bool.decide_and, ← Bool.decide_or, ↓tq_n, ↓tq_e, ↓tq_r, ↓bq_n, ↓bq_e, ↓bq_r, ↓rq_n, ↓rq_r, ↓rq_e]
    refine awp_loop (fun j : Nat => [(0, .msl b 0 n cap), (1, I 0), (2, I n), (3, .fn f caps), (8, I i), (9, I j)]) (fun j => h.put b (i64s (nats (midL (ordL y i) i j (R (i + 1)))) ++ more)) (fun j => j ≤ i ∧ cut y (y.getD i 0) (ordL y i) i = cut y (y.getD i 0) (ordL y i) j) (fun j => j) i ⟨Nat.le_refl _, rfl⟩ ?_ fun j hj => .of_vg hm ?_
    · have e : midL (ordL y i) i i (R (i + 1)) = ordL y i ++ R i := by
        unfold midL
        rw [List.take_of_length_le (by omega), List.drop_of_length_le (by omega), List.nil_append, hRd i h3]
      rw [e]
      exact (GStep.forget (by repeat' first | exact EnvLe.nil _ | refine EnvLe.cons (AV.le.of_eq rfl) ?_ | refine EnvLe.cons (AV.le.undef _) ?_ | refine EnvLe.cons AV.le.unk ?_) (by repeat' first | exact AH.le.refl _ | assumption | (refine AH.le_put ?_ (by first | assumption | exact (AH.blk_put_ne _ _ (by assumption)).trans (by assumption) | exact AH.none_put (by assumption) | exact AH.none_put (AH.none_put (by assumption)) | (simp only [AH.blk_setTok, AH.tok_put] at *; first | assumption | exact AH.none_put (by assumption)))) | (refine AH.le_setTok ?_ (by first | assumption | exact (AH.blk_put_ne _ _ (by assumption)).trans (by assumption) | exact AH.none_put (by assumption) | exact AH.none_put (AH.none_put (by assumption)) | (simp only [AH.blk_setTok, AH.tok_put] at *; first | assumption | exact AH.none_put (by assumption)))) | (refine AH.le_putM ?_ (by first | assumption | exact (AH.mp_putM_ne _ _ (by assumption)).trans (by assumption) | (simp only [AH.mp_put, AH.mp_setTok] at *; assumption)))))
    obtain ⟨j1, j2⟩ := hj
    have hfin : ∀ k, cut y (y.getD i 0) (ordL y i) i = k → k ≤ i → midL (ordL y i) i k (R (i + 1)) = ordL y (i + 1) ++ R (i + 1) := fun k hk hki => by
      unfold midL
      rw [ordL]
      unfold ins
      rw [hol, hk]
      simp
    cases j with
    | zero =>
      have hc0 : ¬ (0 : Int) < ((0 : Nat) : Int) := by omega
      simp only [hc0, F_slices_insertionSortCmpFunc_intW, g_slices_insertionSortCmpFunc_intW, go_sem, reduceIte, Nat.reduceEqDiff, Nat.reduceAdd, Nat.reduceMul, Nat.reduceSub, reduceCtorEq, Nat.reduceLeDiff, Nat.reduceLT, Int.reduceLT, Int.reduceLE, Int.reduceToNat, Int.reduceAdd, Int.reduceSub, Int.reduceNeg, Int.reduceMul, Int.reduceEq, ← Bool.decide_and, ← Bool.decide_or, ↓tq_n, ↓tq_e, ↓tq_r, ↓bq_n, ↓bq_e, ↓bq_r, ↓rq_n, ↓rq_r, ↓rq_e]
      refine ⟨by rw [inR64]; omega, i + 1, ⟨by omega, by omega⟩, by omega, ?_⟩
      rw [hfin 0 (by rw [j2]; rfl) (by omega)]
      exact (GStep.forget (by repeat' first | exact EnvLe.nil _ | refine EnvLe.cons (AV.le.of_eq rfl) ?_ | refine EnvLe.cons (AV.le.undef _) ?_ | refine EnvLe.cons AV.le.unk ?_) (by repeat' first | exact AH.le.refl _ | assumption | (refine AH.le_put ?_ (by first | assumption | exact (AH.blk_put_ne _ _ (by assumption)).trans (by assumption) | exact AH.none_put (by assumption) | exact AH.none_put (AH.none_put (by assumption)) | (simp only [AH.blk_setTok, AH.tok_put] at *; first | assumption | exact AH.none_put (by assumption)))) | (refine AH.le_setTok ?_ (by first | assumption | exact (AH.blk_put_ne _ _ (by assumption)).trans (by assumption) | exact AH.none_put (by assumption) | exact AH.none_put (AH.none_put (by assumption)) | (simp only [AH.blk_setTok, AH.tok_put] at *; first | assumption | exact AH.none_put (by assumption)))) | (refine AH.le_putM ?_ (by first | assumption | exact (AH.mp_putM_ne _ _ (by assumption)).trans (by assumption) | (simp only [AH.mp_put, AH.mp_setTok] at *; assumption)))))
    | succ j =>
      have hc0 : (0 : Int) < ((j + 1 : Nat) : Int) := by omega
      have hc1 : ((j + 1 : Nat) : Int) < (n : Int) := by omega
      have hjm : ((j + 1 : Nat) : Int) - 1 = (j : Int) := by omega
      have hc2 : (j : Int) < (n : Int) := by omega
      have hjo : j < (ordL y i).length := by omega
      obtain ⟨L, hL⟩ : ∃ L, L = midL (ordL y i) i (j + 1) (R (i + 1)) := ⟨_, rfl⟩
      have hLl : L.length = n := by rw [hL, midL_len (by omega), hol, hRl]; omega
      have hg1 : L.getD (j + 1) 0 = i := by rw [hL]; exact midL_at (by omega)
      have hg2 : L.getD j 0 = (ordL y i).getD j 0 := by rw [hL]; exact midL_prev hjo
      have hsw : (L.set (j + 1) ((ordL y i).getD j 0)).set j i = midL (ordL y i) i j (R (i + 1)) := by rw [hL]; exact midL_swap hjo
      have hlt : (ordL y i).getD j 0 < i := by
        have : (ordL y i).getD j 0 ∈ ordL y i := mem_getD hjo
        exact ordL_mem.1 this
      obtain ⟨o, ho⟩ : ∃ o, o = (ordL y i).getD j 0 := ⟨_, rfl⟩
      rw [← ho] at hg2 hsw hlt
      have hd1 : (i64s (nats L) ++ more).drop (j + 1) = I i :: ((i64s (nats L)).drop (j + 1 + 1) ++ more) := by
        rw [List.drop_append_of_le_length (by rw [i64s_len, nats_len]; omega), i64s_drop (by rw [nats_len]; omega), nats_get (by omega), hg1]; rfl
      have hd2 : (i64s (nats L) ++ more).drop j = I o :: ((i64s (nats L)).drop (j + 1) ++ more) := by
        rw [List.drop_append_of_le_length (by rw [i64s_len, nats_len]; omega), i64s_drop (by rw [nats_len]; omega), nats_get (by omega), hg2]; rfl
      have hij : InR .i64 (j : Int) := by rw [inR64]; omega
      rw [← hL]
      simp only [hc0, hc1, hc2, hjm, hij, hd1, hd2, Nat.mul_one, F_slices_insertionSortCmpFunc_intW, g_slices_insertionSortCmpFunc_intW, go_sem, reduceIte, Nat.reduceEqDiff, Nat.reduceAdd, Nat.reduceMul, Nat.reduceSub, reduceCtorEq, Nat.reduceLeDiff, Nat.reduceLT, Int.reduceLT, Int.reduceLE, Int.reduceToNat, Int.reduceAdd, Int.reduceSub, Int.reduceNeg, Int.reduceMul, Int.reduceEq, ← Bool.decide_and, ← Bool.decide_or, ↓tq_n, ↓tq_e, ↓tq_r, ↓bq_n, ↓bq_e, ↓bq_r, ↓rq_n, ↓rq_r, ↓rq_e]
      refine CallG.mk (hf i o _ h3 (by omega)) ?_
      have hcut : cut y (y.getD i 0) (ordL y i) (j + 1) = if y.getD i 0 < y.getD o 0 then cut y (y.getD i 0) (ordL y i) j else j + 1 := by rw [cut, ← ho]
      by_cases h4 : y.getD i 0 < y.getD o 0
      · have e1 : cmpI (y.getD i 0) (y.getD o 0) = -1 := by unfold cmpI; rw [if_pos h4]
        have hlen : (i64s (nats L) ++ more).length = n + more.length := by rw [List.length_append, i64s_len, nats_len, hLl]
        rw [e1]
        rw [if_pos h4] at hcut
        simp only [hc0, hc1, hc2, hjm, hij, hd1, hd2, Nat.mul_one, hlen, List.length_set, F_slices_insertionSortCmpFunc_intW, g_slices_insertionSortCmpFunc_intW, go_sem, reduceIte, Nat.reduceEqDiff, Nat.reduceAdd, Nat.reduceMul, Nat.reduceSub, reduceCtorEq, Nat.reduceLeDiff, Nat.reduceLT, Int.reduceLT, Int.reduceLE, Int.reduceToNat, Int.reduceAdd, Int.reduceSub, Int.reduceNeg, Int.reduceMul, Int.reduceEq, ← Bool.decide_and, ← Bool.decide_or, ↓tq_n, ↓tq_e, ↓tq_r, ↓bq_n, ↓bq_e, ↓bq_r, ↓rq_n, ↓rq_r, ↓rq_e]
        refine ⟨by omega, by omega, j, ⟨by omega, by rw [j2, hcut]⟩, by omega, ?_⟩
        have e2 : ((i64s (nats L) ++ more).set (j + 1) (I o)).set j (I i) = i64s (nats (midL (ordL y i) i j (R (i + 1)))) ++ more := by
          rw [List.set_append_left _ _ (by rw [i64s_len, nats_len]; omega), List.set_append_left _ _ (by rw [List.length_set, i64s_len, nats_len]; omega), ← hsw, nats_set, nats_set, i64s_set, i64s_set]
        rw [e2]
        exact (GStep.forget (by repeat' first | exact EnvLe.nil _ | refine EnvLe.cons (AV.le.of_eq rfl) ?_ | refine EnvLe.cons (AV.le.undef _) ?_ | refine EnvLe.cons AV.le.unk ?_) (by repeat' first | exact AH.le.refl _ | assumption | (refine AH.le_put ?_ (by first | assumption | exact (AH.blk_put_ne _ _ (by assumption)).trans (by assumption) | exact AH.none_put (by assumption) | exact AH.none_put (AH.none_put (by assumption)) | (simp only [AH.blk_setTok, AH.tok_put] at *; first | assumption | exact AH.none_put (by assumption)))) | (refine AH.le_setTok ?_ (by first | assumption | exact (AH.blk_put_ne _ _ (by assumption)).trans (by assumption) | exact AH.none_put (by assumption) | exact AH.none_put (AH.none_put (by assumption)) | (simp only [AH.blk_setTok, AH.tok_put] at *; first | assumption | exact AH.none_put (by assumption)))) | (refine AH.le_putM ?_ (by first | assumption | exact (AH.mp_putM_ne _ _ (by assumption)).trans (by assumption) | (simp only [AH.mp_put, AH.mp_setTok] at *; assumption)))))
      · have e1 : ¬ cmpI (y.getD i 0) (y.getD o 0) < 0 := by
          unfold cmpI; rw [if_neg h4]; split <;> omega
        rw [if_neg h4] at hcut
        simp only [e1, F_slices_insertionSortCmpFunc_intW, g_slices_insertionSortCmpFunc_intW, go_sem, reduceIte, Nat.reduceEqDiff, Nat.reduceAdd, Nat.reduceMul, Nat.reduceSub, reduceCtorEq, Nat.reduceLeDiff, Nat.reduceLT, Int.reduceLT, Int.reduceLE, Int.reduceToNat, Int.reduceAdd, Int.reduceSub, Int.reduceNeg, Int.reduceMul, Int.reduceEq, ← Bool.decide_and, ← Bool.decide_or, ↓tq_n, ↓tq_e, ↓tq_r, ↓bq_n, ↓bq_e, ↓bq_r, ↓rq_n, ↓rq_r, ↓rq_e]
        refine ⟨by rw [inR64]; omega, i + 1, ⟨by omega, by omega⟩, by omega, ?_⟩
        rw [hL, hfin (j + 1) (by rw [j2, hcut]) (by omega)]
        exact (GStep.forget (by repeat' first | exact EnvLe.nil _ | refine EnvLe.cons (AV.le.of_eq rfl) ?_ | refine EnvLe.cons (AV.le.undef _) ?_ | refine EnvLe.cons AV.le.unk ?_) (by repeat' first | exact AH.le.refl _ | assumption | (refine AH.le_put ?_ (by first | assumption | exact (AH.blk_put_ne _ _ (by assumption)).trans (by assumption) | exact AH.none_put (by assumption) | exact AH.none_put (AH.none_put (by assumption)) | (simp only [AH.blk_setTok, AH.tok_put] at *; first | assumption | exact AH.none_put (by assumption)))) | (refine AH.le_setTok ?_ (by first | assumption | exact (AH.blk_put_ne _ _ (by assumption)).trans (by assumption) | exact AH.none_put (by assumption) | exact AH.none_put (AH.none_put (by assumption)) | (simp only [AH.blk_setTok, AH.tok_put] at *; first | assumption | exact AH.none_put (by assumption)))) | (refine AH.le_putM ?_ (by first | assumption | exact (AH.mp_putM_ne _ _ (by assumption)).trans (by assumption) | (simp only [AH.mp_put, AH.mp_setTok] at *; assumption)))))
  have h3 : i = n := by omega
  subst h3
  have hRn : R i = [] := List.eq_nil_of_length_eq_zero (by rw [hRl]; omega)
  rw [hRn, List.append_nil]
  simp only [F_slices_insertionSortCmpFunc_intW, g_slices_insertionSortCmpFunc_intW, go_sem, reduceIte, Nat.reduceEqDiff, Nat.reduceAdd, Nat.reduceMul, Nat.reduceSub, reduceCtorEq, Nat.reduceLeDiff, Nat.reduceLT, Int.reduceLT, Int.reduceLE, Int.reduceToNat, Int.reduceAdd, Int.reduceSub, Int.reduceNeg, Int.reduceMul, Int.reduceEq, ← Bool.decide_and, ← Bool.decide_or, ↓tq_n, ↓tq_e, ↓tq_r, ↓bq_n, ↓bq_e, ↓bq_r, ↓rq_n, ↓rq_r, ↓rq_e]
  exact ⟨_, _, .refl _ _, rfl, rfl⟩
end Go.Proofs.Ytnekkkjedmlloaa
