/- Calls of functions of this seat's program: the packing of the reference. No condition. -/
import Derived.Test.YtemfmnjhhdeedaaD23
namespace Go.Proofs.Ytemfmnjhhdeedaa
open Go Go.Abs
set_option linter.unusedSimpArgs false
set_option linter.unusedVariables false
set_option maxRecDepth 20000

theorem tok_ne {h : AH} {t u n m : Nat} (hne : u ≠ t) : (h.setTok t n m).tok u = h.tok u := if_neg hne
theorem tok_fresh {h : AH} {t u n m : Nat} (hu : (h.setTok t n m).tok u = none) : u ≠ t ∧ h.tok u = none := by
  by_cases hh : u = t
  · subst hh; rw [AH.tok_setTok] at hu; cases hu
  · rw [tok_ne hh] at hu; exact ⟨hh, hu⟩
theorem sub_tl (a : List (Int × Int)) (left : List Int) (i : Nat) (hi : i ≤ left.length) : (sub a (left.take i)).length = i := by
  rw [sub_len, List.length_take]; omega
theorem lls_le {O : List (List Int)} {T : List Int} {tl : Tail} {n : Nat} {t : Tail} : AV.le (gl (lls (O ++ [T])) n t) (gl (lls O ++ [.sl false T.length (i64s T) tl]) n t) := by
  rw [lls_app]
  refine AV_le_cells (by simp) fun j x y hx hy => ?_
  rcases Nat.lt_or_ge j (lls O).length with h | h
  · rw [List.getElem?_append_left h] at hx hy
    rw [hx] at hy; cases hy; exact AV.le.refl _
  · rw [List.getElem?_append_right h] at hx hy
    rcases Nat.eq_zero_or_pos (j - (lls O).length) with h0 | h0
    · rw [h0] at hx hy
      simp at hx hy
      subst hx; subst hy
      exact AV.le.unk
    · rw [List.getElem?_eq_none (by simp; omega)] at hx
      cases hx
theorem pkF_none {n : Nat} {a : List (Int × Int)} {w : List Int} {f : Nat} {left : List Int} (h : smF (sub a left) n = none) : pkF n a w f left = ([], 0) := by
  cases f with
  | zero => rfl
  | succ f => simp only [pkF, h]
theorem pkF_some {n : Nat} {a : List (Int × Int)} {w : List Int} {f : Nat} {left s : List Int} (h : smF (sub a left) n = some s) : pkF n a w (f + 1) left = (pick left s :: (pkF n a w f (rmv left (pick left s))).1, lowK w (pick left s) (pick left s).length + (pkF n a w f (rmv left (pick left s))).2) := by
  simp only [pkF, h]
theorem smV_none {n : Nat} {a : List (Int × Int)} (he : Ev n a) (h : smF a n = none) : smV n a = .tup [.sl true 0 [] .full, I 7] := by
  unfold smV; rw [if_pos he, Int.toNat_natCast, h]
theorem smV_some {n : Nat} {a : List (Int × Int)} (he : Ev n a) {s : List Int} (h : smF a n = some s) : smV n a = .tup [.sl false s.length (i64s s) .unk, I 0] := by
  unfold smV; rw [if_pos he, Int.toNat_natCast, h]
theorem all_ix (k : Nat) : Ix k (nats (List.range k)) := by
  rw [ix_pw]
  constructor
  · intro x hx
    obtain ⟨j, hj, rfl⟩ := List.mem_map.1 hx
    have := List.mem_range.1 hj
    omega
  · unfold nats
    rw [List.pairwise_map]
    exact List.pairwise_lt_range.imp fun h => by omega
def rmK (T left : List Int) (i : Nat) : List Int := (left.take i).filter fun x => !decide (x ∈ T)
theorem rmK_all (T left : List Int) : rmK T left left.length = rmv left T := by simp [rmK, rmv]
theorem rmK_len (T left : List Int) (i : Nat) : (rmK T left i).length ≤ i := Nat.le_trans (List.length_filter_le _ _) (by rw [List.length_take]; omega)
theorem rmK_succ (T : List Int) {left : List Int} {i : Nat} (hi : i < left.length) : rmK T left (i + 1) = if left.getD i 0 ∈ T then rmK T left i else rmK T left i ++ [left.getD i 0] := by
  unfold rmK
  rw [take_getD 0 hi, List.filter_append]
  split <;> simp_all
set_option maxHeartbeats 4000000 in
theorem r_ref_Packing (n : Int) (n1 : Bool) (a : List (Int × Int)) (u1 : Tail) (n2 : Bool) (w : List Int) (u2 : Tail) (h : AH) : RCall Try.prog n_ref_Packing [I n, .sl n1 a.length (prs a) u1, .sl n2 w.length (i64s w) u2] h (pkV n a w) := by
  refine RCall.of hm cF_ref_Packing (by simp [g_ref_Packing]) fun hw h' hl => ?_
  simp only [F_ref_Packing, g_ref_Packing, go_sem, reduceIte, Nat.reduceEqDiff, Nat.reduceAdd, Nat.reduceMul, Nat.reduceSub, reduceCtorEq, Nat.reduceLeDiff, Nat.reduceLT, Int.reduceLT, Int.reduceLE, Int.reduceToNat, Int.reduceAdd, Int.reduceSub, Int.reduceNeg, Int.reduceMul, Int.reduceEq, ← Bool.decide_and, ← Bool.decide_or, ↓tq_n, ↓tq_e, ↓tq_r, ↓bq_n, ↓bq_e, ↓bq_r, ↓rq_n, ↓rq_r, ↓rq_e]
  refine CallG.mk (r_ref_check n n1 a u1 n2 w u2 _) ?_
  by_cases c1 : chkE n a w = 0
  case neg =>
    simp only [c1, F_ref_Packing, g_ref_Packing, go_sem, reduceIte, Nat.reduceEqDiff, Nat.reduceAdd, Nat.reduceMul, Nat.reduceSub, reduceCtorEq, Nat.reduceLeDiff, Nat.reduceLT, Int.reduceLT, Int.reduceLE, Int.reduceToNat, Int.reduceAdd, Int.reduceSub, Int.reduceNeg, Int.reduceMul, Int.reduceEq, ← Bool.decide_and, ← Bool.decide_or, ↓tq_n, ↓tq_e, ↓tq_r, ↓bq_n, ↓bq_e, ↓bq_r, ↓rq_n, ↓rq_r, ↓rq_e]
    exact ret_ok (by unfold pkV; rw [if_neg c1])
  have hok := chk_ok.1 c1
  obtain ⟨m, rfl⟩ := ev_nat hok.2.2.1
  have he := hok.2.2.1
  have hal := hok.2.1
  have hwl := hok.2.2.2.1
  have hWl := hok.2.2.2.2
  simp only [c1, F_ref_Packing, g_ref_Packing, go_sem, reduceIte, Nat.reduceEqDiff, Nat.reduceAdd, Nat.reduceMul, Nat.reduceSub, reduceCtorEq, Nat.reduceLeDiff, Nat.reduceLT, Int.reduceLT, Int.reduceLE, Int.reduceToNat, Int.reduceAdd, Int.reduceSub, Int.reduceNeg, Int.reduceMul, Int.reduceEq, ← Bool.decide_and, ← Bool.decide_or, ↓tq_n, ↓tq_e, ↓tq_r, ↓bq_n, ↓bq_e, ↓bq_r, ↓rq_n, ↓rq_r, ↓rq_e]
  refine CallG.mk (r_ref_All n1 a u1 (by omega) _) ?_
  simp only [F_ref_Packing, g_ref_Packing, go_sem, reduceIte, Nat.reduceEqDiff, Nat.reduceAdd, Nat.reduceMul, Nat.reduceSub, reduceCtorEq, Nat.reduceLeDiff, Nat.reduceLT, Int.reduceLT, Int.reduceLE, Int.reduceToNat, Int.reduceAdd, Int.reduceSub, Int.reduceNeg, Int.reduceMul, Int.reduceEq, ← Bool.decide_and, ← Bool.decide_or, ↓tq_n, ↓tq_e, ↓tq_r, ↓bq_n, ↓bq_e, ↓bq_r, ↓rq_n, ↓rq_r, ↓rq_e]
  obtain ⟨all, hall⟩ : ∃ all, all = nats (List.range a.length) := ⟨_, rfl⟩
  have hal2 : all.length = a.length := by rw [hall, allI_len]
  rw [← hall]
  have hv : pkV m a w = .tup [gl (lls (pkF m a w a.length all).1) (pkF m a w a.length all).1.length .unk, I (pkF m a w a.length all).2, I 0] := by
    unfold pkV; rw [if_pos c1, Int.toNat_natCast, hall]
  obtain ⟨fin, hfin⟩ : ∃ fin, fin = pkF m a w a.length all := ⟨_, rfl⟩
  rw [← hfin] at hv
  rw [hv]
  refine awp_tok 11 1 (nl := true) (n := 0) (cs := []) rfl fun t ht => ?_
  refine awp_loop (α := Nat × List Int × List (List Int) × Int) (fun y => [(0, I m), (1, .sl n1 a.length (prs a) u1), (2, .sl n2 w.length (i64s w) u2), (10, gl (i64s y.2.1) y.2.1.length .unk), (11, gl (lls y.2.2.1) y.2.2.1.length (.tok t)), (12, I y.2.2.2)]) (fun y => h'.setTok t y.2.2.1.length 1)
    (fun y => Ix a.length y.2.1 ∧ y.2.1.length ≤ y.1 ∧ y.2.2.1.length + y.1 ≤ a.length ∧ 0 ≤ y.2.2.2 ∧ y.2.2.2 ≤ 100 * y.2.2.1.length ∧ y.2.2.1 ++ (pkF m a w y.1 y.2.1).1 = fin.1 ∧ y.2.2.2 + (pkF m a w y.1 y.2.1).2 = fin.2)
    (fun y => y.1) (a.length, all, [], 0) ⟨by rw [hall]; exact all_ix _, by simp only; omega, by simp, by simp, by simp, by simp [hfin], by simp [hfin]⟩ (by simp only [hal2]; exact (GStep.forget (by repeat' first | exact EnvLe.nil _ | refine EnvLe.cons (AV.le.of_eq rfl) ?_ | refine EnvLe.cons (AV.le.undef _) ?_ | refine EnvLe.cons AV.le.unk ?_) (by repeat' first | exact AH.le.refl _ | assumption | (refine AH.le_put ?_ (by first | assumption | exact (AH.blk_put_ne _ _ (by assumption)).trans (by assumption) | exact AH.none_put (by assumption) | exact AH.none_put (AH.none_put (by assumption)) | (simp only [AH.blk_setTok, AH.tok_put] at *; first | assumption | exact AH.none_put (by assumption)))) | (refine AH.le_setTok ?_ (by first | assumption | exact (AH.blk_put_ne _ _ (by assumption)).trans (by assumption) | exact AH.none_put (by assumption) | exact AH.none_put (AH.none_put (by assumption)) | (simp only [AH.blk_setTok, AH.tok_put] at *; first | assumption | exact AH.none_put (by assumption)))) | (refine AH.le_putM ?_ (by first | assumption | exact (AH.mp_putM_ne _ _ (by assumption)).trans (by assumption) | (simp only [AH.mp_put, AH.mp_setTok] at *; assumption)))))) fun y hy => .of_vg hm ?_
  obtain ⟨f, left, O, b⟩ := y
  obtain ⟨y1, y2, y3, y4, y5, y6, y7⟩ := hy
  simp only at y1 y2 y3 y4 y5 y6 y7
  have hll := ix_len y1
  have hel := sub_ev he y1
  simp only [F_ref_Packing, g_ref_Packing, go_sem, reduceIte, Nat.reduceEqDiff, Nat.reduceAdd, Nat.reduceMul, Nat.reduceSub, reduceCtorEq, Nat.reduceLeDiff, Nat.reduceLT, Int.reduceLT, Int.reduceLE, Int.reduceToNat, Int.reduceAdd, Int.reduceSub, Int.reduceNeg, Int.reduceMul, Int.reduceEq, ← Bool.decide_and, ← Bool.decide_or, ↓tq_n, ↓tq_e, ↓tq_r, ↓bq_n, ↓bq_e, ↓bq_r, ↓rq_n, ↓rq_r, ↓rq_e]
  refine awp_tok 13 2 (nl := true) (n := 0) (cs := []) rfl fun t1 ht1 => ?_
  obtain ⟨k1, k2⟩ := tok_fresh ht1
  refine awp_loop (fun i : Nat => [(0, I m), (1, .sl n1 a.length (prs a) u1), (2, .sl n2 w.length (i64s w) u2), (10, gl (i64s left) left.length .unk), (11, gl (lls O) O.length (.tok t)), (12, I b), (13, gl (prs (sub a (left.take i))) i (.tok t1)), (14, I i)]) (fun i => (h'.setTok t O.length 1).setTok t1 i 2) (fun i => i ≤ left.length) (fun i => left.length - i) 0 (Nat.zero_le _) (GStep.forget (by repeat' first | exact EnvLe.nil _ | refine EnvLe.cons (AV.le.of_eq rfl) ?_ | refine EnvLe.cons (AV.le.undef _) ?_ | refine EnvLe.cons AV.le.unk ?_) (by repeat' first | exact AH.le.refl _ | assumption | (refine AH.le_put ?_ (by first | assumption | exact (AH.blk_put_ne _ _ (by assumption)).trans (by assumption) | exact AH.none_put (by assumption) | exact AH.none_put (AH.none_put (by assumption)) | (simp only [AH.blk_setTok, AH.tok_put] at *; first | assumption | exact AH.none_put (by assumption)))) | (refine AH.le_setTok ?_ (by first | assumption | exact (AH.blk_put_ne _ _ (by assumption)).trans (by assumption) | exact AH.none_put (by assumption) | exact AH.none_put (AH.none_put (by assumption)) | (simp only [AH.blk_setTok, AH.tok_put] at *; first | assumption | exact AH.none_put (by assumption)))) | (refine AH.le_putM ?_ (by first | assumption | exact (AH.mp_putM_ne _ _ (by assumption)).trans (by assumption) | (simp only [AH.mp_put, AH.mp_setTok] at *; assumption))))) fun i hi => .of_vg hm ?_
  by_cases h3 : i < left.length
  · have hc : (i : Int) < (left.length : Int) := by omega
    obtain ⟨i1, i2, i3⟩ := ix_at y1 h3
    have e1 := sub_take a left h3
    have l1 : (prs (sub a (left.take i))).length = i * 2 := by rw [prs_len, sub_tl a left i hi]
    simp only [hc, i64s_drop h3, i1, i2, prs_drop i3, l1, F_ref_Packing, g_ref_Packing, go_sem, reduceIte, Nat.reduceEqDiff, Nat.reduceAdd, Nat.reduceMul, Nat.reduceSub, reduceCtorEq, Nat.reduceLeDiff, Nat.reduceLT, Int.reduceLT, Int.reduceLE, Int.reduceToNat, Int.reduceAdd, Int.reduceSub, Int.reduceNeg, Int.reduceMul, Int.reduceEq, ← Bool.decide_and, ← Bool.decide_or, ↓tq_n, ↓tq_e, ↓tq_r, ↓bq_n, ↓bq_e, ↓bq_r, ↓rq_n, ↓rq_r, ↓rq_e]
    refine ⟨by omega, by omega, by rw [inR64]; omega, i + 1, by omega, by omega, ?_⟩
    rw [e1, prs_append, prs_one]
    exact (GStep.forget (by repeat' first | exact EnvLe.nil _ | refine EnvLe.cons (AV.le.of_eq rfl) ?_ | refine EnvLe.cons (AV.le.undef _) ?_ | refine EnvLe.cons AV.le.unk ?_) (by repeat' first | exact AH.le.refl _ | assumption | (refine AH.le_put ?_ (by first | assumption | exact (AH.blk_put_ne _ _ (by assumption)).trans (by assumption) | exact AH.none_put (by assumption) | exact AH.none_put (AH.none_put (by assumption)) | (simp only [AH.blk_setTok, AH.tok_put] at *; first | assumption | exact AH.none_put (by assumption)))) | (refine AH.le_setTok ?_ (by first | assumption | exact (AH.blk_put_ne _ _ (by assumption)).trans (by assumption) | exact AH.none_put (by assumption) | exact AH.none_put (AH.none_put (by assumption)) | (simp only [AH.blk_setTok, AH.tok_put] at *; first | assumption | exact AH.none_put (by assumption)))) | (refine AH.le_putM ?_ (by first | assumption | exact (AH.mp_putM_ne _ _ (by assumption)).trans (by assumption) | (simp only [AH.mp_put, AH.mp_setTok] at *; assumption)))))
  have h3 : i = left.length := by omega
  subst h3
  have g1 : gl (prs (sub a (left.take left.length))) left.length (.tok t1) = .sl (decide (left.length = 0)) (sub a left).length (prs (sub a left)) (.tok t1) := by rw [List.take_length, sub_len]; rfl
  simp only [F_ref_Packing, g_ref_Packing, go_sem, reduceIte, Nat.reduceEqDiff, Nat.reduceAdd, Nat.reduceMul, Nat.reduceSub, reduceCtorEq, Nat.reduceLeDiff, Nat.reduceLT, Int.reduceLT, Int.reduceLE, Int.reduceToNat, Int.reduceAdd, Int.reduceSub, Int.reduceNeg, Int.reduceMul, Int.reduceEq, ← Bool.decide_and, ← Bool.decide_or, ↓tq_n, ↓tq_e, ↓tq_r, ↓bq_n, ↓bq_e, ↓bq_r, ↓rq_n, ↓rq_r, ↓rq_e]
  rw [g1]
  refine CallG.mk (r_ref_Smallest m _ (sub a left) _ _) ?_
  cases hs : smF (sub a left) m with
  | none =>
    rw [smV_none hel hs]
    rw [pkF_none hs] at y6 y7
    simp only [List.append_nil, Int.add_zero] at y6 y7
    simp only [F_ref_Packing, g_ref_Packing, go_sem, reduceIte, Nat.reduceEqDiff, Nat.reduceAdd, Nat.reduceMul, Nat.reduceSub, reduceCtorEq, Nat.reduceLeDiff, Nat.reduceLT, Int.reduceLT, Int.reduceLE, Int.reduceToNat, Int.reduceAdd, Int.reduceSub, Int.reduceNeg, Int.reduceMul, Int.reduceEq, ← Bool.decide_and, ← Bool.decide_or, ↓tq_n, ↓tq_e, ↓tq_r, ↓bq_n, ↓bq_e, ↓bq_r, ↓rq_n, ↓rq_r, ↓rq_e]
    rw [← y6, ← y7]
    refine ret_le (AH.le_setTok (AH.le_setTok (AH.le.refl _) ht) k2) ?_
    exact AV.le.tupC (CLe.cons AV.le.glU (CLe.cons (AV.le.refl _) (CLe.cons (AV.le.refl _) CLe.nil)))
  | some s =>
    rw [smV_some hel hs]
    obtain ⟨p1, p2, p3⟩ := pk_ix he y1 hs
    obtain ⟨f, rfl⟩ : ∃ g, f = g + 1 := ⟨f - 1, by
      have := ix_len p1
      omega⟩
    rw [pkF_some hs] at y6 y7
    have p4 := rmv_lt he y1 hs
    have p5 := pick_len he y1 hs (left := left)
    have p6 := pick_ix he y1 hs
    obtain ⟨T, hT⟩ : ∃ T, T = pick left s := ⟨_, rfl⟩
    rw [← hT] at y6 y7 p4 p5 p6
    have hTl := ix_len p6
    simp only [F_ref_Packing, g_ref_Packing, go_sem, reduceIte, Nat.reduceEqDiff, Nat.reduceAdd, Nat.reduceMul, Nat.reduceSub, reduceCtorEq, Nat.reduceLeDiff, Nat.reduceLT, Int.reduceLT, Int.reduceLE, Int.reduceToNat, Int.reduceAdd, Int.reduceSub, Int.reduceNeg, Int.reduceMul, Int.reduceEq, ← Bool.decide_and, ← Bool.decide_or, ↓tq_n, ↓tq_e, ↓tq_r, ↓bq_n, ↓bq_e, ↓bq_r, ↓rq_n, ↓rq_r, ↓rq_e]
    refine awp_tok 17 1 (nl := true) (n := 0) (cs := []) rfl fun t2 ht2 => ?_
    obtain ⟨k3, k4⟩ := tok_fresh ht2
    obtain ⟨k5, k6⟩ := tok_fresh k4
    refine awp_loop (fun i : Nat => [(0, I m), (1, .sl n1 a.length (prs a) u1), (2, .sl n2 w.length (i64s w) u2), (10, gl (i64s left) left.length .unk), (11, gl (lls O) O.length (.tok t)), (12, I b), (15, .sl false s.length (i64s s) .unk), (17, gl (i64s (T.take i)) i (.tok t2)), (18, I (lowK w T i)), (19, I i)]) (fun i => (h'.setTok t O.length 1).setTok t2 i 1) (fun i => i ≤ s.length) (fun i => s.length - i) 0 (Nat.zero_le _) (GStep.forget (by repeat' first | exact EnvLe.nil _ | refine EnvLe.cons (AV.le.of_eq rfl) ?_ | refine EnvLe.cons (AV.le.undef _) ?_ | refine EnvLe.cons AV.le.unk ?_) (AH.le_setTok2 (AH.le_setTok (AH.le.refl _) ht1))) fun i hi => .of_vg hm ?_
    by_cases h3 : i < s.length
    · have hc : (i : Int) < (s.length : Int) := by omega
      have hp := pick_get he y1 hs h3
      rw [← hT] at hp
      obtain ⟨i1, i2⟩ := (ix_pw.1 p1).1 _ (mem_getD (d := 0) h3)
      have i3 : (s.getD i 0).toNat < left.length := by omega
      obtain ⟨j1, j2, j3⟩ := ix_at y1 i3
      have e1 : T.take (i + 1) = T.take i ++ [left.getD (s.getD i 0).toNat 0] := by rw [take_getD 0 (by omega), hp]
      have e2 : lowK w T (i + 1) = min (lowK w T i) (w.getD (left.getD (s.getD i 0).toNat 0).toNat 0) := by simp only [lowK, hp]
      have l1 : (i64s (T.take i)).length = i := by rw [i64s_len, List.length_take]; omega
      have j4 : left.getD (s.getD i 0).toNat 0 < (w.length : Int) := by omega
      have j5 : (left.getD (s.getD i 0).toNat 0).toNat < w.length := by omega
      simp only [hc, i64s_drop h3, i1, i2, i64s_drop i3, j1, j2, j4, i64s_drop j5, l1, F_ref_Packing, g_ref_Packing, go_sem, reduceIte, Nat.reduceEqDiff, Nat.reduceAdd, Nat.reduceMul, Nat.reduceSub, reduceCtorEq, Nat.reduceLeDiff, Nat.reduceLT, Int.reduceLT, Int.reduceLE, Int.reduceToNat, Int.reduceAdd, Int.reduceSub, Int.reduceNeg, Int.reduceMul, Int.reduceEq, ← Bool.decide_and, ← Bool.decide_or, ↓tq_n, ↓tq_e, ↓tq_r, ↓bq_n, ↓bq_e, ↓bq_r, ↓rq_n, ↓rq_r, ↓rq_e]
      refine ⟨by omega, by omega, by rw [inR64]; omega, i + 1, by omega, by omega, ?_⟩
      rw [e1, e2, i64s_append]
      exact (GStep.forget (by repeat' first | exact EnvLe.nil _ | refine EnvLe.cons (AV.le.of_eq rfl) ?_ | refine EnvLe.cons (AV.le.undef _) ?_ | refine EnvLe.cons AV.le.unk ?_) (by repeat' first | exact AH.le.refl _ | assumption | (refine AH.le_put ?_ (by first | assumption | exact (AH.blk_put_ne _ _ (by assumption)).trans (by assumption) | exact AH.none_put (by assumption) | exact AH.none_put (AH.none_put (by assumption)) | (simp only [AH.blk_setTok, AH.tok_put] at *; first | assumption | exact AH.none_put (by assumption)))) | (refine AH.le_setTok ?_ (by first | assumption | exact (AH.blk_put_ne _ _ (by assumption)).trans (by assumption) | exact AH.none_put (by assumption) | exact AH.none_put (AH.none_put (by assumption)) | (simp only [AH.blk_setTok, AH.tok_put] at *; first | assumption | exact AH.none_put (by assumption)))) | (refine AH.le_putM ?_ (by first | assumption | exact (AH.mp_putM_ne _ _ (by assumption)).trans (by assumption) | (simp only [AH.mp_put, AH.mp_setTok] at *; assumption)))))
    have h3 : i = s.length := by omega
    subst h3
    have g2 : gl (i64s (T.take s.length)) s.length (.tok t2) = .sl false T.length (i64s T) (.tok t2) := by rw [← p5, List.take_length, gl_pos (by omega)]
    rw [g2]
    have hlo := lowK_bd hWl T s.length
    have l2 : (lls O).length = O.length := lls_len O
    simp only [l2, tok_ne k5.symm, F_ref_Packing, g_ref_Packing, go_sem, reduceIte, Nat.reduceEqDiff, Nat.reduceAdd, Nat.reduceMul, Nat.reduceSub, reduceCtorEq, Nat.reduceLeDiff, Nat.reduceLT, Int.reduceLT, Int.reduceLE, Int.reduceToNat, Int.reduceAdd, Int.reduceSub, Int.reduceNeg, Int.reduceMul, Int.reduceEq, ← Bool.decide_and, ← Bool.decide_or, ↓tq_n, ↓tq_e, ↓tq_r, ↓bq_n, ↓bq_e, ↓bq_r, ↓rq_n, ↓rq_r, ↓rq_e]
    refine ⟨by omega, by omega, by rw [inR64]; omega, ?_⟩
    refine awp_tok 20 1 (nl := true) (n := 0) (cs := []) rfl fun t3 ht3 => ?_
    obtain ⟨k7, k8⟩ := tok_fresh ht3
    refine awp_loop (fun i : Nat => [(0, I m), (1, .sl n1 a.length (prs a) u1), (2, .sl n2 w.length (i64s w) u2), (10, gl (i64s left) left.length .unk), (11, gl (lls (O ++ [T])) (O.length + 1) (.tok t)), (12, I (b + lowK w T s.length)), (17, .sl false T.length (i64s T) .unk), (20, gl (i64s (rmK T left i)) (rmK T left i).length (.tok t3)), (21, I i)]) (fun i => (h'.setTok t (O.length + 1) 1).setTok t3 (rmK T left i).length 1) (fun i => i ≤ left.length) (fun i => left.length - i) 0 (Nat.zero_le _) (GStep.forget (by repeat' first | exact EnvLe.nil _ | refine EnvLe.cons (AV.le.of_eq rfl) ?_ | refine EnvLe.cons (AV.le.undef _) ?_ | refine EnvLe.cons AV.le.unk ?_ | refine EnvLe.cons lls_le ?_) (AH.le_setTok2 (AH.le_setTok2 (AH.le_setTok (AH.le_setTok (AH.le.refl _) ht) k6)))) fun i hi => .of_vg hm ?_
    by_cases h3 : i < left.length
    · have hc : (i : Int) < (left.length : Int) := by omega
      have hsucc := rmK_succ T h3
      have hrl := rmK_len T left i
      simp only [hc, i64s_drop h3, F_ref_Packing, g_ref_Packing, go_sem, reduceIte, Nat.reduceEqDiff, Nat.reduceAdd, Nat.reduceMul, Nat.reduceSub, reduceCtorEq, Nat.reduceLeDiff, Nat.reduceLT, Int.reduceLT, Int.reduceLE, Int.reduceToNat, Int.reduceAdd, Int.reduceSub, Int.reduceNeg, Int.reduceMul, Int.reduceEq, ← Bool.decide_and, ← Bool.decide_or, ↓tq_n, ↓tq_e, ↓tq_r, ↓bq_n, ↓bq_e, ↓bq_r, ↓rq_n, ↓rq_r, ↓rq_e]
      refine CallG.mk (r_base_Has false T .unk _ _) ?_
      by_cases hin : left.getD i 0 ∈ T
      · rw [if_pos hin] at hsucc
        rw [decide_eq_true hin]
        simp only [F_ref_Packing, g_ref_Packing, go_sem, reduceIte, Nat.reduceEqDiff, Nat.reduceAdd, Nat.reduceMul, Nat.reduceSub, reduceCtorEq, Nat.reduceLeDiff, Nat.reduceLT, Int.reduceLT, Int.reduceLE, Int.reduceToNat, Int.reduceAdd, Int.reduceSub, Int.reduceNeg, Int.reduceMul, Int.reduceEq, ← Bool.decide_and, ← Bool.decide_or, ↓tq_n, ↓tq_e, ↓tq_r, ↓bq_n, ↓bq_e, ↓bq_r, ↓rq_n, ↓rq_r, ↓rq_e]
        refine ⟨by rw [inR64]; omega, i + 1, by omega, by omega, ?_⟩
        rw [hsucc]
        exact (GStep.forget (by repeat' first | exact EnvLe.nil _ | refine EnvLe.cons (AV.le.of_eq rfl) ?_ | refine EnvLe.cons (AV.le.undef _) ?_ | refine EnvLe.cons AV.le.unk ?_) (by repeat' first | exact AH.le.refl _ | assumption | (refine AH.le_put ?_ (by first | assumption | exact (AH.blk_put_ne _ _ (by assumption)).trans (by assumption) | exact AH.none_put (by assumption) | exact AH.none_put (AH.none_put (by assumption)) | (simp only [AH.blk_setTok, AH.tok_put] at *; first | assumption | exact AH.none_put (by assumption)))) | (refine AH.le_setTok ?_ (by first | assumption | exact (AH.blk_put_ne _ _ (by assumption)).trans (by assumption) | exact AH.none_put (by assumption) | exact AH.none_put (AH.none_put (by assumption)) | (simp only [AH.blk_setTok, AH.tok_put] at *; first | assumption | exact AH.none_put (by assumption)))) | (refine AH.le_putM ?_ (by first | assumption | exact (AH.mp_putM_ne _ _ (by assumption)).trans (by assumption) | (simp only [AH.mp_put, AH.mp_setTok] at *; assumption)))))
      · rw [if_neg hin] at hsucc
        rw [decide_eq_false hin]
        simp only [hc, i64s_drop h3, F_ref_Packing, g_ref_Packing, go_sem, reduceIte, Nat.reduceEqDiff, Nat.reduceAdd, Nat.reduceMul, Nat.reduceSub, reduceCtorEq, Nat.reduceLeDiff, Nat.reduceLT, Int.reduceLT, Int.reduceLE, Int.reduceToNat, Int.reduceAdd, Int.reduceSub, Int.reduceNeg, Int.reduceMul, Int.reduceEq, ← Bool.decide_and, ← Bool.decide_or, ↓tq_n, ↓tq_e, ↓tq_r, ↓bq_n, ↓bq_e, ↓bq_r, ↓rq_n, ↓rq_r, ↓rq_e]
        refine ⟨by rw [i64s_len], by omega, by omega, by rw [inR64]; omega, i + 1, by omega, by omega, ?_⟩
        rw [hsucc, i64s_append, List.length_append]
        exact (GStep.forget (by repeat' first | exact EnvLe.nil _ | refine EnvLe.cons (AV.le.of_eq rfl) ?_ | refine EnvLe.cons (AV.le.undef _) ?_ | refine EnvLe.cons AV.le.unk ?_) (by repeat' first | exact AH.le.refl _ | assumption | (refine AH.le_put ?_ (by first | assumption | exact (AH.blk_put_ne _ _ (by assumption)).trans (by assumption) | exact AH.none_put (by assumption) | exact AH.none_put (AH.none_put (by assumption)) | (simp only [AH.blk_setTok, AH.tok_put] at *; first | assumption | exact AH.none_put (by assumption)))) | (refine AH.le_setTok ?_ (by first | assumption | exact (AH.blk_put_ne _ _ (by assumption)).trans (by assumption) | exact AH.none_put (by assumption) | exact AH.none_put (AH.none_put (by assumption)) | (simp only [AH.blk_setTok, AH.tok_put] at *; first | assumption | exact AH.none_put (by assumption)))) | (refine AH.le_putM ?_ (by first | assumption | exact (AH.mp_putM_ne _ _ (by assumption)).trans (by assumption) | (simp only [AH.mp_put, AH.mp_setTok] at *; assumption)))))
    have h3 : i = left.length := by omega
    subst h3
    rw [rmK_all]
    simp only [F_ref_Packing, g_ref_Packing, go_sem, reduceIte, Nat.reduceEqDiff, Nat.reduceAdd, Nat.reduceMul, Nat.reduceSub, reduceCtorEq, Nat.reduceLeDiff, Nat.reduceLT, Int.reduceLT, Int.reduceLE, Int.reduceToNat, Int.reduceAdd, Int.reduceSub, Int.reduceNeg, Int.reduceMul, Int.reduceEq, ← Bool.decide_and, ← Bool.decide_or, ↓tq_n, ↓tq_e, ↓tq_r, ↓bq_n, ↓bq_e, ↓bq_r, ↓rq_n, ↓rq_r, ↓rq_e]
    obtain ⟨k9, k10⟩ := tok_fresh k8
    obtain ⟨k11, k12⟩ := tok_fresh k10
    rw [p5] at y7
    simp only at y6 y7
    refine ⟨(f, rmv left T, O ++ [T], b + lowK w T s.length), ⟨rmv_ix y1 T, by simp only; omega, by simp only [List.length_append, List.length_singleton]; omega, by simp only; omega, by simp only [List.length_append, List.length_singleton]; omega, by simp only [List.append_assoc, List.singleton_append]; exact y6, by simp only; omega⟩, Nat.lt_succ_self f, ?_⟩
    simp only [List.length_append, List.length_singleton]
    exact GStep.forget (by repeat' first | exact EnvLe.nil _ | refine EnvLe.cons (AV.le.of_eq rfl) ?_ | refine EnvLe.cons (AV.le.undef _) ?_ | refine EnvLe.cons AV.le.unk ?_) (AH.le_setTok (AH.le.refl _) ((tok_ne k7).trans k12))
end Go.Proofs.Ytemfmnjhhdeedaa
