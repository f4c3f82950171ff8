/- Calls of functions of this seat's program: the order of hoards, continued. No condition. -/
import Derived.Test.YtnekkkjedmlloaaH5
namespace Go.Proofs.Ytnekkkjedmlloaa
open Go Go.Abs
set_option linter.unusedSimpArgs false
set_option linter.unusedVariables false
set_option maxRecDepth 20000

theorem s_stable {f : FuncId} {caps : List AV} {y : List Int} {n : Nat} {cap : Option Nat} (hf : ∀ (a b : Nat) h, a < n → b < n → RCall Try.prog f ([I a, I b] ++ caps) h (I (cmpI (y.getD a 0) (y.getD b 0)))) (hn1 : 1 ≤ n) (hn : n ≤ 19)
    {h : AH} {b : Nat} {more : List AV} (hb : h.blk b = some (i64s (nats (List.range n)) ++ more)) :
    ACalls Try.prog n_slices_stableCmpFunc_intW [.msl b 0 n cap, I n, .fn f caps] h fun r h' => r = .tup [] ∧ h' = h.put b (i64s (nats (ordL y n)) ++ more) := by
  refine ACalls.of hm cF_slices_stableCmpFunc_intW (by simp [g_slices_stableCmpFunc_intW]) fun hw => ?_
  have hc1 : ¬ (20 : Int) ≤ (n : Int) := by omega
  have hc2 : ¬ (20 : Int) < (n : Int) := by omega
  simp only [F_slices_stableCmpFunc_intW, g_slices_stableCmpFunc_intW, go_sem, reduceIte, Nat.reduceEqDiff, Nat.reduceAdd, Nat.reduceMul, Nat.reduceSub, reduceCtorEq, Nat.reduceLeDiff, Nat.reduceLT, Int.reduceLT, Int.reduceLE, Int.reduceToNat, Int.reduceAdd, Int.reduceSub, Int.reduceNeg, Int.reduceMul, Int.reduceEq, ← Bool.decide_and, ← Bool.decide_or, ↓tq_n, ↓tq_e, ↓tq_r, ↓bq_n, ↓bq_e, ↓bq_r, ↓rq_n, ↓rq_r, ↓rq_e]
  refine awp_loop (fun _ : Nat => [(0, .msl b 0 n cap), (1, I n), (2, .fn f caps), (6, I 20), (7, I 0), (8, I 20)]) (fun _ => h) (fun _ => True) (fun i => i) 0 trivial (GStep.forget (by repeat' first | exact EnvLe.nil _ | refine EnvLe.cons (AV.le.of_eq rfl) ?_ | refine EnvLe.cons (AV.le.undef _) ?_ | refine EnvLe.cons AV.le.unk ?_) (by repeat' first | exact AH.le.refl _ | assumption | (refine AH.le_put ?_ (by first | assumption | exact (AH.blk_put_ne _ _ (by assumption)).trans (by assumption) | exact AH.none_put (by assumption) | exact AH.none_put (AH.none_put (by assumption)) | (simp only [AH.blk_setTok, AH.tok_put] at *; first | assumption | exact AH.none_put (by assumption)))) | (refine AH.le_setTok ?_ (by first | assumption | exact (AH.blk_put_ne _ _ (by assumption)).trans (by assumption) | exact AH.none_put (by assumption) | exact AH.none_put (AH.none_put (by assumption)) | (simp only [AH.blk_setTok, AH.tok_put] at *; first | assumption | exact AH.none_put (by assumption)))) | (refine AH.le_putM ?_ (by first | assumption | exact (AH.mp_putM_ne _ _ (by assumption)).trans (by assumption) | (simp only [AH.mp_put, AH.mp_setTok] at *; assumption))))) fun i hi => .of_vg hm ?_
  simp only [hc1, F_slices_stableCmpFunc_intW, g_slices_stableCmpFunc_intW, go_sem, reduceIte, Nat.reduceEqDiff, Nat.reduceAdd, Nat.reduceMul, Nat.reduceSub, reduceCtorEq, Nat.reduceLeDiff, Nat.reduceLT, Int.reduceLT, Int.reduceLE, Int.reduceToNat, Int.reduceAdd, Int.reduceSub, Int.reduceNeg, Int.reduceMul, Int.reduceEq, ← Bool.decide_and, ← Bool.decide_or, ↓tq_n, ↓tq_e, ↓tq_r, ↓bq_n, ↓bq_e, ↓bq_r, ↓rq_n, ↓rq_r, ↓rq_e]
  refine CallS.mk (s_insertion hf hn1 (by omega) hb) fun r H hr => ?_
  obtain ⟨rfl, rfl⟩ := hr
  simp only [F_slices_stableCmpFunc_intW, g_slices_stableCmpFunc_intW, go_sem, reduceIte, Nat.reduceEqDiff, Nat.reduceAdd, Nat.reduceMul, Nat.reduceSub, reduceCtorEq, Nat.reduceLeDiff, Nat.reduceLT, Int.reduceLT, Int.reduceLE, Int.reduceToNat, Int.reduceAdd, Int.reduceSub, Int.reduceNeg, Int.reduceMul, Int.reduceEq, ← Bool.decide_and, ← Bool.decide_or, ↓tq_n, ↓tq_e, ↓tq_r, ↓bq_n, ↓bq_e, ↓bq_r, ↓rq_n, ↓rq_r, ↓rq_e]
  refine awp_loop (fun _ : Nat => [(1, I n), (6, I 20)]) (fun _ => h.put b (i64s (nats (ordL y n)) ++ more)) (fun _ => True) (fun i => i) 0 trivial (GStep.forget (by repeat' first | exact EnvLe.nil _ | refine EnvLe.cons (AV.le.of_eq rfl) ?_ | refine EnvLe.cons (AV.le.undef _) ?_ | refine EnvLe.cons AV.le.unk ?_) (by repeat' first | exact AH.le.refl _ | assumption | (refine AH.le_put ?_ (by first | assumption | exact (AH.blk_put_ne _ _ (by assumption)).trans (by assumption) | exact AH.none_put (by assumption) | exact AH.none_put (AH.none_put (by assumption)) | (simp only [AH.blk_setTok, AH.tok_put] at *; first | assumption | exact AH.none_put (by assumption)))) | (refine AH.le_setTok ?_ (by first | assumption | exact (AH.blk_put_ne _ _ (by assumption)).trans (by assumption) | exact AH.none_put (by assumption) | exact AH.none_put (AH.none_put (by assumption)) | (simp only [AH.blk_setTok, AH.tok_put] at *; first | assumption | exact AH.none_put (by assumption)))) | (refine AH.le_putM ?_ (by first | assumption | exact (AH.mp_putM_ne _ _ (by assumption)).trans (by assumption) | (simp only [AH.mp_put, AH.mp_setTok] at *; assumption))))) fun i hi => .of_vg hm ?_
  simp only [hc2, F_slices_stableCmpFunc_intW, g_slices_stableCmpFunc_intW, go_sem, reduceIte, Nat.reduceEqDiff, Nat.reduceAdd, Nat.reduceMul, Nat.reduceSub, reduceCtorEq, Nat.reduceLeDiff, Nat.reduceLT, Int.reduceLT, Int.reduceLE, Int.reduceToNat, Int.reduceAdd, Int.reduceSub, Int.reduceNeg, Int.reduceMul, Int.reduceEq, ← Bool.decide_and, ← Bool.decide_or, ↓tq_n, ↓tq_e, ↓tq_r, ↓bq_n, ↓bq_e, ↓bq_r, ↓rq_n, ↓rq_r, ↓rq_e]
  exact ⟨_, _, .refl _ _, rfl, rfl⟩
theorem s_sortStable {f : FuncId} {caps : List AV} {y : List Int} {n : Nat} {cap : Option Nat} (hf : ∀ (a b : Nat) h, a < n → b < n → RCall Try.prog f ([I a, I b] ++ caps) h (I (cmpI (y.getD a 0) (y.getD b 0)))) (hn1 : 1 ≤ n) (hn : n ≤ 19)
    {h : AH} {b : Nat} {more : List AV} (hb : h.blk b = some (i64s (nats (List.range n)) ++ more)) :
    ACalls Try.prog n_slices_SortStableFunc_intW [.msl b 0 n cap, .fn f caps] h fun r h' => r = .tup [] ∧ h' = h.put b (i64s (nats (ordL y n)) ++ more) := by
  refine ACalls.of hm cF_slices_SortStableFunc_intW (by simp [g_slices_SortStableFunc_intW]) fun hw => ?_
  simp only [F_slices_SortStableFunc_intW, g_slices_SortStableFunc_intW, go_sem, reduceIte, Nat.reduceEqDiff, Nat.reduceAdd, Nat.reduceMul, Nat.reduceSub, reduceCtorEq, Nat.reduceLeDiff, Nat.reduceLT, Int.reduceLT, Int.reduceLE, Int.reduceToNat, Int.reduceAdd, Int.reduceSub, Int.reduceNeg, Int.reduceMul, Int.reduceEq, ← Bool.decide_and, ← Bool.decide_or, ↓tq_n, ↓tq_e, ↓tq_r, ↓bq_n, ↓bq_e, ↓bq_r, ↓rq_n, ↓rq_r, ↓rq_e]
  refine CallS.mk (s_stable hf hn1 hn hb) fun r H hr => ?_
  obtain ⟨rfl, rfl⟩ := hr
  simp only [F_slices_SortStableFunc_intW, g_slices_SortStableFunc_intW, go_sem, reduceIte, Nat.reduceEqDiff, Nat.reduceAdd, Nat.reduceMul, Nat.reduceSub, reduceCtorEq, Nat.reduceLeDiff, Nat.reduceLT, Int.reduceLT, Int.reduceLE, Int.reduceToNat, Int.reduceAdd, Int.reduceSub, Int.reduceNeg, Int.reduceMul, Int.reduceEq, ← Bool.decide_and, ← Bool.decide_or, ↓tq_n, ↓tq_e, ↓tq_r, ↓bq_n, ↓bq_e, ↓bq_r, ↓rq_n, ↓rq_r, ↓rq_e]
  exact ⟨_, _, .refl _ _, rfl, rfl⟩
theorem s_insertion0 {f : FuncId} {caps : List AV} (h : AH) : ACalls Try.prog n_slices_insertionSortCmpFunc_intW [.sl true 0 [] .full, I 0, I 0, .fn f caps] h fun r h' => r = .tup [] ∧ h' = h := by
  refine ACalls.of hm cF_slices_insertionSortCmpFunc_intW (by simp [g_slices_insertionSortCmpFunc_intW]) fun hw => ?_
  simp only [F_slices_insertionSortCmpFunc_intW, g_slices_insertionSortCmpFunc_intW, go_sem, reduceIte, Nat.reduceEqDiff, Nat.reduceAdd, Nat.reduceMul, Nat.reduceSub, reduceCtorEq, Nat.reduceLeDiff, Nat.reduceLT, Int.reduceLT, Int.reduceLE, Int.reduceToNat, Int.reduceAdd, Int.reduceSub, Int.reduceNeg, Int.reduceMul, Int.reduceEq, ← Bool.decide_and, ← Bool.decide_or, ↓tq_n, ↓tq_e, ↓tq_r, ↓bq_n, ↓bq_e, ↓bq_r, ↓rq_n, ↓rq_r, ↓rq_e]
  refine ⟨by rw [inR64]; omega, ?_⟩
  refine awp_loop (fun _ : Nat => [(2, I 0), (8, I 1)]) (fun _ => h) (fun _ => True) (fun i => i) 0 trivial (GStep.forget (by repeat' first | exact EnvLe.nil _ | refine EnvLe.cons (AV.le.of_eq rfl) ?_ | refine EnvLe.cons (AV.le.undef _) ?_ | refine EnvLe.cons AV.le.unk ?_) (by repeat' first | exact AH.le.refl _ | assumption | (refine AH.le_put ?_ (by first | assumption | exact (AH.blk_put_ne _ _ (by assumption)).trans (by assumption) | exact AH.none_put (by assumption) | exact AH.none_put (AH.none_put (by assumption)) | (simp only [AH.blk_setTok, AH.tok_put] at *; first | assumption | exact AH.none_put (by assumption)))) | (refine AH.le_setTok ?_ (by first | assumption | exact (AH.blk_put_ne _ _ (by assumption)).trans (by assumption) | exact AH.none_put (by assumption) | exact AH.none_put (AH.none_put (by assumption)) | (simp only [AH.blk_setTok, AH.tok_put] at *; first | assumption | exact AH.none_put (by assumption)))) | (refine AH.le_putM ?_ (by first | assumption | exact (AH.mp_putM_ne _ _ (by assumption)).trans (by assumption) | (simp only [AH.mp_put, AH.mp_setTok] at *; assumption))))) fun i hi => .of_vg hm ?_
  simp only [F_slices_insertionSortCmpFunc_intW, g_slices_insertionSortCmpFunc_intW, go_sem, reduceIte, Nat.reduceEqDiff, Nat.reduceAdd, Nat.reduceMul, Nat.reduceSub, reduceCtorEq, Nat.reduceLeDiff, Nat.reduceLT, Int.reduceLT, Int.reduceLE, Int.reduceToNat, Int.reduceAdd, Int.reduceSub, Int.reduceNeg, Int.reduceMul, Int.reduceEq, ← Bool.decide_and, ← Bool.decide_or, ↓tq_n, ↓tq_e, ↓tq_r, ↓bq_n, ↓bq_e, ↓bq_r, ↓rq_n, ↓rq_r, ↓rq_e]
  exact ⟨_, _, .refl _ _, rfl, rfl⟩
theorem s_stable0 {f : FuncId} {caps : List AV} (h : AH) : ACalls Try.prog n_slices_stableCmpFunc_intW [.sl true 0 [] .full, I 0, .fn f caps] h fun r h' => r = .tup [] ∧ h' = h := by
  refine ACalls.of hm cF_slices_stableCmpFunc_intW (by simp [g_slices_stableCmpFunc_intW]) fun hw => ?_
  simp only [F_slices_stableCmpFunc_intW, g_slices_stableCmpFunc_intW, go_sem, reduceIte, Nat.reduceEqDiff, Nat.reduceAdd, Nat.reduceMul, Nat.reduceSub, reduceCtorEq, Nat.reduceLeDiff, Nat.reduceLT, Int.reduceLT, Int.reduceLE, Int.reduceToNat, Int.reduceAdd, Int.reduceSub, Int.reduceNeg, Int.reduceMul, Int.reduceEq, ← Bool.decide_and, ← Bool.decide_or, ↓tq_n, ↓tq_e, ↓tq_r, ↓bq_n, ↓bq_e, ↓bq_r, ↓rq_n, ↓rq_r, ↓rq_e]
  refine awp_loop (fun _ : Nat => [(0, .sl true 0 [] .full), (1, I 0), (2, .fn f caps), (6, I 20), (7, I 0), (8, I 20)]) (fun _ => h) (fun _ => True) (fun i => i) 0 trivial (GStep.forget (by repeat' first | exact EnvLe.nil _ | refine EnvLe.cons (AV.le.of_eq rfl) ?_ | refine EnvLe.cons (AV.le.undef _) ?_ | refine EnvLe.cons AV.le.unk ?_) (by repeat' first | exact AH.le.refl _ | assumption | (refine AH.le_put ?_ (by first | assumption | exact (AH.blk_put_ne _ _ (by assumption)).trans (by assumption) | exact AH.none_put (by assumption) | exact AH.none_put (AH.none_put (by assumption)) | (simp only [AH.blk_setTok, AH.tok_put] at *; first | assumption | exact AH.none_put (by assumption)))) | (refine AH.le_setTok ?_ (by first | assumption | exact (AH.blk_put_ne _ _ (by assumption)).trans (by assumption) | exact AH.none_put (by assumption) | exact AH.none_put (AH.none_put (by assumption)) | (simp only [AH.blk_setTok, AH.tok_put] at *; first | assumption | exact AH.none_put (by assumption)))) | (refine AH.le_putM ?_ (by first | assumption | exact (AH.mp_putM_ne _ _ (by assumption)).trans (by assumption) | (simp only [AH.mp_put, AH.mp_setTok] at *; assumption))))) fun i hi => .of_vg hm ?_
  simp only [F_slices_stableCmpFunc_intW, g_slices_stableCmpFunc_intW, go_sem, reduceIte, Nat.reduceEqDiff, Nat.reduceAdd, Nat.reduceMul, Nat.reduceSub, reduceCtorEq, Nat.reduceLeDiff, Nat.reduceLT, Int.reduceLT, Int.reduceLE, Int.reduceToNat, Int.reduceAdd, Int.reduceSub, Int.reduceNeg, Int.reduceMul, Int.reduceEq, ← Bool.decide_and, ← Bool.decide_or, ↓tq_n, ↓tq_e, ↓tq_r, ↓bq_n, ↓bq_e, ↓bq_r, ↓rq_n, ↓rq_r, ↓rq_e]
  refine CallS.mk (s_insertion0 h) fun r H hr => ?_
  obtain ⟨rfl, rfl⟩ := hr
  simp only [F_slices_stableCmpFunc_intW, g_slices_stableCmpFunc_intW, go_sem, reduceIte, Nat.reduceEqDiff, Nat.reduceAdd, Nat.reduceMul, Nat.reduceSub, reduceCtorEq, Nat.reduceLeDiff, Nat.reduceLT, Int.reduceLT, Int.reduceLE, Int.reduceToNat, Int.reduceAdd, Int.reduceSub, Int.reduceNeg, Int.reduceMul, Int.reduceEq, ← Bool.decide_and, ← Bool.decide_or, ↓tq_n, ↓tq_e, ↓tq_r, ↓bq_n, ↓bq_e, ↓bq_r, ↓rq_n, ↓rq_r, ↓rq_e]
  refine awp_loop (fun _ : Nat => [(1, I 0), (6, I 20)]) (fun _ => H) (fun _ => True) (fun i => i) 0 trivial (GStep.forget (by repeat' first | exact EnvLe.nil _ | refine EnvLe.cons (AV.le.of_eq rfl) ?_ | refine EnvLe.cons (AV.le.undef _) ?_ | refine EnvLe.cons AV.le.unk ?_) (by repeat' first | exact AH.le.refl _ | assumption | (refine AH.le_put ?_ (by first | assumption | exact (AH.blk_put_ne _ _ (by assumption)).trans (by assumption) | exact AH.none_put (by assumption) | exact AH.none_put (AH.none_put (by assumption)) | (simp only [AH.blk_setTok, AH.tok_put] at *; first | assumption | exact AH.none_put (by assumption)))) | (refine AH.le_setTok ?_ (by first | assumption | exact (AH.blk_put_ne _ _ (by assumption)).trans (by assumption) | exact AH.none_put (by assumption) | exact AH.none_put (AH.none_put (by assumption)) | (simp only [AH.blk_setTok, AH.tok_put] at *; first | assumption | exact AH.none_put (by assumption)))) | (refine AH.le_putM ?_ (by first | assumption | exact (AH.mp_putM_ne _ _ (by assumption)).trans (by assumption) | (simp only [AH.mp_put, AH.mp_setTok] at *; assumption))))) fun i hi => .of_vg hm ?_
  simp only [F_slices_stableCmpFunc_intW, g_slices_stableCmpFunc_intW, go_sem, reduceIte, Nat.reduceEqDiff, Nat.reduceAdd, Nat.reduceMul, Nat.reduceSub, reduceCtorEq, Nat.reduceLeDiff, Nat.reduceLT, Int.reduceLT, Int.reduceLE, Int.reduceToNat, Int.reduceAdd, Int.reduceSub, Int.reduceNeg, Int.reduceMul, Int.reduceEq, ← Bool.decide_and, ← Bool.decide_or, ↓tq_n, ↓tq_e, ↓tq_r, ↓bq_n, ↓bq_e, ↓bq_r, ↓rq_n, ↓rq_r, ↓rq_e]
  exact ⟨_, _, .refl _ _, rfl, rfl⟩
theorem s_sortStable0 {f : FuncId} {caps : List AV} (h : AH) : ACalls Try.prog n_slices_SortStableFunc_intW [.sl true 0 [] .full, .fn f caps] h fun r h' => r = .tup [] ∧ h' = h := by
  refine ACalls.of hm cF_slices_SortStableFunc_intW (by simp [g_slices_SortStableFunc_intW]) fun hw => ?_
  have z0 : ((0 : Nat) : Int) = 0 := rfl
  simp only [z0, F_slices_SortStableFunc_intW, g_slices_SortStableFunc_intW, go_sem, reduceIte, Nat.reduceEqDiff, Nat.reduceAdd, Nat.reduceMul, Nat.reduceSub, reduceCtorEq, Nat.reduceLeDiff, Nat.reduceLT, Int.reduceLT, Int.reduceLE, Int.reduceToNat, Int.reduceAdd, Int.reduceSub, Int.reduceNeg, Int.reduceMul, Int.reduceEq, ← Bool.decide_and, ← Bool.decide_or, ↓tq_n, ↓tq_e, ↓tq_r, ↓bq_n, ↓bq_e, ↓bq_r, ↓rq_n, ↓rq_r, ↓rq_e]
  refine CallS.mk (s_stable0 h) fun r H hr => ?_
  obtain ⟨rfl, rfl⟩ := hr
  simp only [F_slices_SortStableFunc_intW, g_slices_SortStableFunc_intW, go_sem, reduceIte, Nat.reduceEqDiff, Nat.reduceAdd, Nat.reduceMul, Nat.reduceSub, reduceCtorEq, Nat.reduceLeDiff, Nat.reduceLT, Int.reduceLT, Int.reduceLE, Int.reduceToNat, Int.reduceAdd, Int.reduceSub, Int.reduceNeg, Int.reduceMul, Int.reduceEq, ← Bool.decide_and, ← Bool.decide_or, ↓tq_n, ↓tq_e, ↓tq_r, ↓bq_n, ↓bq_e, ↓bq_r, ↓rq_n, ↓rq_r, ↓rq_e]
  exact ⟨_, _, .refl _ _, rfl, rfl⟩

/-- The answers of Order. -/
def ordO (l : List Hd) (t : List (Int × Int)) : List Nat := if yq l t = 0 then ordL (ys l t) l.length else []
def orderV (l : List Hd) (t : List (Int × Int)) : AV := if yq l t = 0 then .tup [gl (i64s (nats (ordL (ys l t) l.length))) l.length .unk, I 0] else .tup [.sl true 0 [] .full, I (yq l t)]

set_option maxHeartbeats 1000000 in
theorem r_burial_Order (n1 : Bool) (l : List Hd) (u1 : Tail) (n2 : Bool) (t : List (Int × Int)) (u2 : Tail) (h : AH) :
    RCall Try.prog n_burial_OrderW [.sl n1 l.length (hds l) u1, .sl n2 t.length (prs t) u2] h (orderV l t) := by
  refine RCall.of hm cF_burial_OrderW (by simp [g_burial_OrderW]) fun hw h' hl => ?_
  simp only [F_burial_OrderW, g_burial_OrderW, go_sem, reduceIte, Nat.reduceEqDiff, Nat.reduceAdd, Nat.reduceMul, Nat.reduceSub, reduceCtorEq, Nat.reduceLeDiff, Nat.reduceLT, Int.reduceLT, Int.reduceLE, Int.reduceToNat, Int.reduceAdd, Int.reduceSub, Int.reduceNeg, Int.reduceMul, Int.reduceEq, ← Bool.decide_and, ← Bool.decide_or, ↓tq_n, ↓tq_e, ↓tq_r, ↓bq_n, ↓bq_e, ↓bq_r, ↓rq_n, ↓rq_r, ↓rq_e]
  refine CallG.mk (r_burial_latest n1 l u1 n2 t u2 _) ?_
  unfold yearsV orderV
  by_cases h1 : yq l t = 0
  case neg =>
    rw [if_neg h1]
    simp only [h1, F_burial_OrderW, g_burial_OrderW, go_sem, reduceIte, Nat.reduceEqDiff, Nat.reduceAdd, Nat.reduceMul, Nat.reduceSub, reduceCtorEq, Nat.reduceLeDiff, Nat.reduceLT, Int.reduceLT, Int.reduceLE, Int.reduceToNat, Int.reduceAdd, Int.reduceSub, Int.reduceNeg, Int.reduceMul, Int.reduceEq, ← Bool.decide_and, ← Bool.decide_or, ↓tq_n, ↓tq_e, ↓tq_r, ↓bq_n, ↓bq_e, ↓bq_r, ↓rq_n, ↓rq_r, ↓rq_e]
    exact ret_ok (by first | rfl | simp [h1])
  obtain ⟨yl1, hc0, _⟩ := ys_len h1
  obtain ⟨l8, hvl⟩ := chk_vls hc0
  rw [if_pos h1]
  simp only [F_burial_OrderW, g_burial_OrderW, go_sem, reduceIte, Nat.reduceEqDiff, Nat.reduceAdd, Nat.reduceMul, Nat.reduceSub, reduceCtorEq, Nat.reduceLeDiff, Nat.reduceLT, Int.reduceLT, Int.reduceLE, Int.reduceToNat, Int.reduceAdd, Int.reduceSub, Int.reduceNeg, Int.reduceMul, Int.reduceEq, ← Bool.decide_and, ← Bool.decide_or, ↓tq_n, ↓tq_e, ↓tq_r, ↓bq_n, ↓bq_e, ↓bq_r, ↓rq_n, ↓rq_r, ↓rq_e]
  refine awp_loop (α := Nat × AV × AH) (fun p => [(6, .sptr [gl (i64s (ys l t)) l.length .unk]), (8, p.2.1), (20, I l.length), (21, I p.1)]) (fun p => p.2.2) (fun p => p.1 ≤ l.length ∧ Gr h' p.2.1 (nats (List.range p.1)) p.2.2) (fun p => l.length - p.1) (0, .sl true 0 [] .full, h') ⟨Nat.zero_le _, Gr.new h'⟩ ?_ fun p hp => .of_vg hm ?_
  · exact (GStep.forget (by repeat' first | exact EnvLe.nil _ | refine EnvLe.cons (AV.le.of_eq rfl) ?_ | refine EnvLe.cons (AV.le.undef _) ?_ | refine EnvLe.cons AV.le.unk ?_) (by repeat' first | exact AH.le.refl _ | assumption | (refine AH.le_put ?_ (by first | assumption | exact (AH.blk_put_ne _ _ (by assumption)).trans (by assumption) | exact AH.none_put (by assumption) | exact AH.none_put (AH.none_put (by assumption)) | (simp only [AH.blk_setTok, AH.tok_put] at *; first | assumption | exact AH.none_put (by assumption)))) | (refine AH.le_setTok ?_ (by first | assumption | exact (AH.blk_put_ne _ _ (by assumption)).trans (by assumption) | exact AH.none_put (by assumption) | exact AH.none_put (AH.none_put (by assumption)) | (simp only [AH.blk_setTok, AH.tok_put] at *; first | assumption | exact AH.none_put (by assumption)))) | (refine AH.le_putM ?_ (by first | assumption | exact (AH.mp_putM_ne _ _ (by assumption)).trans (by assumption) | (simp only [AH.mp_put, AH.mp_setTok] at *; assumption)))))
  obtain ⟨i, x, H⟩ := p
  obtain ⟨h3, h4⟩ := hp
  simp only at h3 h4 ⊢
  by_cases h5 : i < l.length
  · have hc : (i : Int) < (l.length : Int) := by omega
    simp only [hc, F_burial_OrderW, g_burial_OrderW, go_sem, reduceIte, Nat.reduceEqDiff, Nat.reduceAdd, Nat.reduceMul, Nat.reduceSub, reduceCtorEq, Nat.reduceLeDiff, Nat.reduceLT, Int.reduceLT, Int.reduceLE, Int.reduceToNat, Int.reduceAdd, Int.reduceSub, Int.reduceNeg, Int.reduceMul, Int.reduceEq, ← Bool.decide_and, ← Bool.decide_or, ↓tq_n, ↓tq_e, ↓tq_r, ↓bq_n, ↓bq_e, ↓bq_r, ↓rq_n, ↓rq_r, ↓rq_e]
    refine h4.step (by rw [nats_len, List.length_range]; omega) fun x' H' hk => ?_
    simp only [F_burial_OrderW, g_burial_OrderW, go_sem, reduceIte, Nat.reduceEqDiff, Nat.reduceAdd, Nat.reduceMul, Nat.reduceSub, reduceCtorEq, Nat.reduceLeDiff, Nat.reduceLT, Int.reduceLT, Int.reduceLE, Int.reduceToNat, Int.reduceAdd, Int.reduceSub, Int.reduceNeg, Int.reduceMul, Int.reduceEq, ← Bool.decide_and, ← Bool.decide_or, ↓tq_n, ↓tq_e, ↓tq_r, ↓bq_n, ↓bq_e, ↓bq_r, ↓rq_n, ↓rq_r, ↓rq_e]
    refine ⟨by rw [inR64]; omega, (i + 1, x', H'), ⟨by simp only; omega, ?_⟩, by simp only; omega, (GStep.forget (by repeat' first | exact EnvLe.nil _ | refine EnvLe.cons (AV.le.of_eq rfl) ?_ | refine EnvLe.cons (AV.le.undef _) ?_ | refine EnvLe.cons AV.le.unk ?_) (by repeat' first | exact AH.le.refl _ | assumption | (refine AH.le_put ?_ (by first | assumption | exact (AH.blk_put_ne _ _ (by assumption)).trans (by assumption) | exact AH.none_put (by assumption) | exact AH.none_put (AH.none_put (by assumption)) | (simp only [AH.blk_setTok, AH.tok_put] at *; first | assumption | exact AH.none_put (by assumption)))) | (refine AH.le_setTok ?_ (by first | assumption | exact (AH.blk_put_ne _ _ (by assumption)).trans (by assumption) | exact AH.none_put (by assumption) | exact AH.none_put (AH.none_put (by assumption)) | (simp only [AH.blk_setTok, AH.tok_put] at *; first | assumption | exact AH.none_put (by assumption)))) | (refine AH.le_putM ?_ (by first | assumption | exact (AH.mp_putM_ne _ _ (by assumption)).trans (by assumption) | (simp only [AH.mp_put, AH.mp_setTok] at *; assumption)))))⟩
    have : nats (List.range (i + 1)) = nats (List.range i) ++ [(i : Int)] := by rw [List.range_succ, nats_append]; rfl
    simp only
    rw [this]
    exact hk
  have h5 : i = l.length := by omega
  subst h5
  have hf : ∀ (a b : Nat) h, a < l.length → b < l.length → RCall Try.prog 41 ([I a, I b] ++ [.sptr [gl (i64s (ys l t)) l.length .unk]]) h (I (cmpI ((ys l t).getD a 0) ((ys l t).getD b 0))) := fun a b h ha hb => r_burial_Order_1 a b (ys l t) l.length .unk yl1.symm ha hb h
  rcases h4 with ⟨hle, ⟨hz, rfl⟩ | ⟨hne, b, q, rfl, hq, hb, hn⟩⟩
  · have hl0 : l.length = 0 := by
      have := congrArg List.length hz
      rw [nats_len, List.length_range] at this
      exact this
    simp only [F_burial_OrderW, g_burial_OrderW, go_sem, reduceIte, Nat.reduceEqDiff, Nat.reduceAdd, Nat.reduceMul, Nat.reduceSub, reduceCtorEq, Nat.reduceLeDiff, Nat.reduceLT, Int.reduceLT, Int.reduceLE, Int.reduceToNat, Int.reduceAdd, Int.reduceSub, Int.reduceNeg, Int.reduceMul, Int.reduceEq, ← Bool.decide_and, ← Bool.decide_or, ↓tq_n, ↓tq_e, ↓tq_r, ↓bq_n, ↓bq_e, ↓bq_r, ↓rq_n, ↓rq_r, ↓rq_e]
    refine CallS.mk (s_sortStable0 _) fun r H' hr => ?_
    obtain ⟨rfl, rfl⟩ := hr
    simp only [F_burial_OrderW, g_burial_OrderW, go_sem, reduceIte, Nat.reduceEqDiff, Nat.reduceAdd, Nat.reduceMul, Nat.reduceSub, reduceCtorEq, Nat.reduceLeDiff, Nat.reduceLT, Int.reduceLT, Int.reduceLE, Int.reduceToNat, Int.reduceAdd, Int.reduceSub, Int.reduceNeg, Int.reduceMul, Int.reduceEq, ← Bool.decide_and, ← Bool.decide_or, ↓tq_n, ↓tq_e, ↓tq_r, ↓bq_n, ↓bq_e, ↓bq_r, ↓rq_n, ↓rq_r, ↓rq_e]
    refine ret_le hle ?_
    rw [if_pos h1, hl0]
    exact AV.le.tupC (.cons AV.le.unk (.cons (AV.le.refl _) .nil))
  · rw [nats_len, List.length_range] at hq hb
    have hn1 : 1 ≤ l.length := by
      rcases Nat.eq_zero_or_pos l.length with h0 | h0
      · rw [h0] at hne; exact absurd rfl hne
      · exact h0
    rw [nats_len, List.length_range]
    simp only [F_burial_OrderW, g_burial_OrderW, go_sem, reduceIte, Nat.reduceEqDiff, Nat.reduceAdd, Nat.reduceMul, Nat.reduceSub, reduceCtorEq, Nat.reduceLeDiff, Nat.reduceLT, Int.reduceLT, Int.reduceLE, Int.reduceToNat, Int.reduceAdd, Int.reduceSub, Int.reduceNeg, Int.reduceMul, Int.reduceEq, ← Bool.decide_and, ← Bool.decide_or, ↓tq_n, ↓tq_e, ↓tq_r, ↓bq_n, ↓bq_e, ↓bq_r, ↓rq_n, ↓rq_r, ↓rq_e]
    refine CallS.mk (s_sortStable hf hn1 (by omega) hb) fun r H' hr => ?_
    obtain ⟨rfl, rfl⟩ := hr
    simp only [F_burial_OrderW, g_burial_OrderW, go_sem, reduceIte, Nat.reduceEqDiff, Nat.reduceAdd, Nat.reduceMul, Nat.reduceSub, reduceCtorEq, Nat.reduceLeDiff, Nat.reduceLT, Int.reduceLT, Int.reduceLE, Int.reduceToNat, Int.reduceAdd, Int.reduceSub, Int.reduceNeg, Int.reduceMul, Int.reduceEq, ← Bool.decide_and, ← Bool.decide_or, ↓tq_n, ↓tq_e, ↓tq_r, ↓bq_n, ↓bq_e, ↓bq_r, ↓rq_n, ↓rq_r, ↓rq_e]
    obtain ⟨S, hS⟩ : ∃ S, S = i64s (nats (ordL (ys l t) l.length)) := ⟨_, rfl⟩
    have hSl : S.length = l.length := by rw [hS, i64s_len, nats_len, ordL_len]
    rw [← hS]
    have hfix := RGh.fix (n := l.length) (cap := some q) (AH.blk_put H b (S ++ List.replicate (q - l.length) AV.undef)) 1
    rw [Nat.mul_one, List.take_append_of_le_length (by omega), List.take_of_length_le (by omega)] at hfix
    refine ⟨_, h', (@RGh.tupAt [] [I 0] _ _ _ _ hfix).trans (RGh.forget (AV.le.refl _) ?_), ?_, rfl⟩
    · refine ⟨fun c cs e => ?_, hle.tok, hle.mp⟩
      have hcb : c ≠ b := fun hh => by subst hh; rw [hn] at e; cases e
      simp only [AH.del, AH.put]
      rw [if_neg hcb, if_neg hcb]
      exact hle.blk c cs e
    · rw [if_pos h1, gl_pos (by omega)]
      rfl
end Go.Proofs.Ytnekkkjedmlloaa
