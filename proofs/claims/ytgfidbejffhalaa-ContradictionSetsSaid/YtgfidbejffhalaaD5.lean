/- Calls of functions of this seat's program: what is kept, one after the other. No condition. -/
import Derived.Test.YtgfidbejffhalaaZ1
namespace Go.Proofs.Ytgfidbejffhalaa
open Go Go.Abs
set_option linter.unusedSimpArgs false
set_option linter.unusedVariables false
set_option maxRecDepth 20000

theorem gstep_ofRGh {e e' : Env} {h h' : AH} {t : Nat} {x y : AV} (ht : e.get t = x) (hr : RGh x h y h') (he : EnvLe e' e) : Abs.GStep e h ((t, y) :: e') h' := by
  intro N s w0 own a w k
  have kv := k.rel t
  rw [ht] at kv
  obtain ⟨s', l1, l2, l3⟩ := hr s w0 own w _ k.heap kv
  refine ⟨s', l1, l2, k.defers, k.size, fun u => ?_⟩
  rw [Env.get_cons]
  split
  · rename_i htu; subst htu; exact l3
  · exact he.get u _ _ ((k.rel u).mono l1)

/-- What is kept of the first pieces. -/
def exK (n : Nat) (a : List (Int × Int)) : Nat → List Int
  | 0 => []
  | k + 1 => if cyB n (sub a (exK n a k ++ [((k : Nat) : Int)])) then exK n a k else exK n a k ++ [((k : Nat) : Int)]
theorem exK_ix (n : Nat) (a : List (Int × Int)) : ∀ k : Nat, Ix (k : Int) (exK n a k) := by
  intro k
  induction k with
  | zero => intro i hi; simp [exK] at hi
  | succ k ih =>
    unfold exK
    split
    · exact ix_mono ih (by omega)
    · exact ix_snoc ih (by omega)
theorem exK_len (n : Nat) (a : List (Int × Int)) (k : Nat) : (exK n a k).length ≤ k := ix_len (exK_ix n a k)
def exV (n : Int) (a : List (Int × Int)) : AV := if Ev n a then .tup [gl (i64s (exK n.toNat a a.length)) (exK n.toNat a a.length).length .unk, I 0] else .tup [.sl true 0 [] .full, I 1]

theorem s_slices_Clone_gr (ys : List Int) (hl1 : ys.length ≤ 1000) (h : AH) :
    ACalls Try.prog n_slices_Clone_int [gl (i64s ys) ys.length .unk] h fun r h' => Gr h r ys h' := by
  cases ys with
  | nil =>
    refine ACalls.of hm cF_slices_Clone_int (by simp [g_slices_Clone_int]) fun hw => ?_
    simp only [gl, F_slices_Clone_int, g_slices_Clone_int, go_sem, reduceIte, Nat.reduceEqDiff, Nat.reduceAdd, Nat.reduceMul, Nat.reduceSub, reduceCtorEq, Nat.reduceLeDiff, Nat.reduceLT, Int.reduceLT, Int.reduceLE, Int.reduceToNat, Int.reduceAdd, Int.reduceSub, Int.reduceNeg, Int.reduceMul, Int.reduceEq, ← Bool.decide_and, ← Bool.decide_or, ↓tq_n, ↓tq_e, ↓tq_r, ↓bq_n, ↓bq_e, ↓bq_r, ↓rq_n, ↓rq_r, ↓rq_e]
    exact ⟨_, _, .refl _ _, Gr.new h⟩
  | cons y ys =>
    refine ACalls.of hm cF_slices_Clone_int (by simp [g_slices_Clone_int]) fun hw => ?_
    simp only [gl_pos (show 0 < (y :: ys).length by simp), F_slices_Clone_int, g_slices_Clone_int, go_sem, reduceIte, Nat.reduceEqDiff, Nat.reduceAdd, Nat.reduceMul, Nat.reduceSub, reduceCtorEq, Nat.reduceLeDiff, Nat.reduceLT, Int.reduceLT, Int.reduceLE, Int.reduceToNat, Int.reduceAdd, Int.reduceSub, Int.reduceNeg, Int.reduceMul, Int.reduceEq, ← Bool.decide_and, ← Bool.decide_or, ↓tq_n, ↓tq_e, ↓tq_r, ↓bq_n, ↓bq_e, ↓bq_r, ↓rq_n, ↓rq_r, ↓rq_e]
    have hl2 : ys.length + 1 ≤ 1000 := hl1
    have e0 : (i64s (y :: ys)).length = ys.length + 1 := i64s_len _
    refine ⟨e0, by omega, by omega, GrowG.mk fun b q hq hb => ?_⟩
    simp only [F_slices_Clone_int, g_slices_Clone_int, go_sem, reduceIte, Nat.reduceEqDiff, Nat.reduceAdd, Nat.reduceMul, Nat.reduceSub, reduceCtorEq, Nat.reduceLeDiff, Nat.reduceLT, Int.reduceLT, Int.reduceLE, Int.reduceToNat, Int.reduceAdd, Int.reduceSub, Int.reduceNeg, Int.reduceMul, Int.reduceEq, ← Bool.decide_and, ← Bool.decide_or, ↓tq_n, ↓tq_e, ↓tq_r, ↓bq_n, ↓bq_e, ↓bq_r, ↓rq_n, ↓rq_r, ↓rq_e]
    exact ⟨_, _, .refl _ _, AH.le_put (.refl _) hb, .inr ⟨by simp, b, q, rfl, hq, AH.blk_put _ _ _, hb⟩⟩
theorem r_clashes_gr (n : Nat) (n1 : Bool) (a : List (Int × Int)) (u1 : Tail) (he : Ev n a) {h0 h : AH} {x : AV} {s : List Int} (hx : Gr h0 x s h) (hs : Ix a.length s) (hl : s.length ≤ 1000) :
    RCall Try.prog n_contradiction_clashes [I n, .sl n1 a.length (prs a) u1, x] h (.bool (cyB n (sub a s))) := by
  rcases hx with ⟨_, ⟨rfl, rfl⟩ | ⟨_, b, q, rfl, hq, hb, _⟩⟩
  · exact r_contradiction_clashes n n1 a u1 he true [] .full hs h
  · exact r_contradiction_clashesM n n1 a u1 he s b q _ hs hl h hb
theorem r_contradiction_Extend (n : Int) (n1 : Bool) (a : List (Int × Int)) (u1 : Tail) (h : AH) : RCall Try.prog n_contradiction_Extend [I n, .sl n1 a.length (prs a) u1] h (exV n a) := by
  refine RCall.of hm cF_contradiction_Extend (by simp [g_contradiction_Extend]) fun hw h' hl => ?_
  simp only [F_contradiction_Extend, g_contradiction_Extend, go_sem, reduceIte, Nat.reduceEqDiff, Nat.reduceAdd, Nat.reduceMul, Nat.reduceSub, reduceCtorEq, Nat.reduceLeDiff, Nat.reduceLT, Int.reduceLT, Int.reduceLE, Int.reduceToNat, Int.reduceAdd, Int.reduceSub, Int.reduceNeg, Int.reduceMul, Int.reduceEq, ← Bool.decide_and, ← Bool.decide_or, ↓tq_n, ↓tq_e, ↓tq_r, ↓bq_n, ↓bq_e, ↓bq_r, ↓rq_n, ↓rq_r, ↓rq_e]
  refine CallG.mk (r_contradiction_Valid n n1 a u1 _) ?_
  by_cases he : Ev n a
  case neg =>
    rw [decide_eq_false he]
    simp only [F_contradiction_Extend, g_contradiction_Extend, go_sem, reduceIte, Nat.reduceEqDiff, Nat.reduceAdd, Nat.reduceMul, Nat.reduceSub, reduceCtorEq, Nat.reduceLeDiff, Nat.reduceLT, Int.reduceLT, Int.reduceLE, Int.reduceToNat, Int.reduceAdd, Int.reduceSub, Int.reduceNeg, Int.reduceMul, Int.reduceEq, ← Bool.decide_and, ← Bool.decide_or, ↓tq_n, ↓tq_e, ↓tq_r, ↓bq_n, ↓bq_e, ↓bq_r, ↓rq_n, ↓rq_r, ↓rq_e]
    exact ret_ok (by simp [exV, he])
  rw [decide_eq_true he]
  obtain ⟨m, rfl⟩ := ev_nat he
  have ha := he.2.2.1
  simp only [F_contradiction_Extend, g_contradiction_Extend, go_sem, reduceIte, Nat.reduceEqDiff, Nat.reduceAdd, Nat.reduceMul, Nat.reduceSub, reduceCtorEq, Nat.reduceLeDiff, Nat.reduceLT, Int.reduceLT, Int.reduceLE, Int.reduceToNat, Int.reduceAdd, Int.reduceSub, Int.reduceNeg, Int.reduceMul, Int.reduceEq, ← Bool.decide_and, ← Bool.decide_or, ↓tq_n, ↓tq_e, ↓tq_r, ↓bq_n, ↓bq_e, ↓bq_r, ↓rq_n, ↓rq_r, ↓rq_e]
  refine awp_loop (fun k : Nat => [(0, I m), (1, .sl n1 a.length (prs a) u1), (6, gl (i64s (exK m a k)) (exK m a k).length .unk), (14, I a.length), (15, I k)]) (fun k => h') (fun k => k ≤ a.length) (fun k => a.length - k) 0 (Nat.zero_le _) ?_ fun k hk => .of_vg hm ?_
  · refine GStep.forget ?_ (.refl _)
    refine .cons (AV.le.of_eq rfl) (.cons (AV.le.of_eq rfl) (.cons AV.le.unk (.cons (AV.le.of_eq rfl) (.cons (AV.le.of_eq rfl) (.nil _)))))
  by_cases h3 : k < a.length
  case neg =>
    have h3 : k = a.length := by omega
    subst h3
    simp only [F_contradiction_Extend, g_contradiction_Extend, go_sem, reduceIte, Nat.reduceEqDiff, Nat.reduceAdd, Nat.reduceMul, Nat.reduceSub, reduceCtorEq, Nat.reduceLeDiff, Nat.reduceLT, Int.reduceLT, Int.reduceLE, Int.reduceToNat, Int.reduceAdd, Int.reduceSub, Int.reduceNeg, Int.reduceMul, Int.reduceEq, ← Bool.decide_and, ← Bool.decide_or, ↓tq_n, ↓tq_e, ↓tq_r, ↓bq_n, ↓bq_e, ↓bq_r, ↓rq_n, ↓rq_r, ↓rq_e]
    exact ret_ok (by simp [exV, he])
  have hc : (k : Int) < (a.length : Int) := by omega
  have hex := exK_len m a k
  have hix : Ix (a.length : Int) (exK m a k ++ [(k : Int)]) := ix_snoc (exK_ix m a k) (by omega)
  have hnx : exK m a (k + 1) = if cyB m (sub a (exK m a k ++ [(k : Int)])) then exK m a k else exK m a k ++ [(k : Int)] := rfl
  generalize exK m a k = ys at hex hix hnx ⊢
  simp only [hc, F_contradiction_Extend, g_contradiction_Extend, go_sem, reduceIte, Nat.reduceEqDiff, Nat.reduceAdd, Nat.reduceMul, Nat.reduceSub, reduceCtorEq, Nat.reduceLeDiff, Nat.reduceLT, Int.reduceLT, Int.reduceLE, Int.reduceToNat, Int.reduceAdd, Int.reduceSub, Int.reduceNeg, Int.reduceMul, Int.reduceEq, ← Bool.decide_and, ← Bool.decide_or, ↓tq_n, ↓tq_e, ↓tq_r, ↓bq_n, ↓bq_e, ↓bq_r, ↓rq_n, ↓rq_r, ↓rq_e]
  refine CallS.mk (s_slices_Clone_gr ys (by omega) _) fun r h1 hr => ?_
  simp only [F_contradiction_Extend, g_contradiction_Extend, go_sem, reduceIte, Nat.reduceEqDiff, Nat.reduceAdd, Nat.reduceMul, Nat.reduceSub, reduceCtorEq, Nat.reduceLeDiff, Nat.reduceLT, Int.reduceLT, Int.reduceLE, Int.reduceToNat, Int.reduceAdd, Int.reduceSub, Int.reduceNeg, Int.reduceMul, Int.reduceEq, ← Bool.decide_and, ← Bool.decide_or, ↓tq_n, ↓tq_e, ↓tq_r, ↓bq_n, ↓bq_e, ↓bq_r, ↓rq_n, ↓rq_r, ↓rq_e]
  refine hr.step (by omega) fun x h2 hx => ?_
  have hle : h'.le h2 := hx.1
  simp only [F_contradiction_Extend, g_contradiction_Extend, go_sem, reduceIte, Nat.reduceEqDiff, Nat.reduceAdd, Nat.reduceMul, Nat.reduceSub, reduceCtorEq, Nat.reduceLeDiff, Nat.reduceLT, Int.reduceLT, Int.reduceLE, Int.reduceToNat, Int.reduceAdd, Int.reduceSub, Int.reduceNeg, Int.reduceMul, Int.reduceEq, ← Bool.decide_and, ← Bool.decide_or, ↓tq_n, ↓tq_e, ↓tq_r, ↓bq_n, ↓bq_e, ↓bq_r, ↓rq_n, ↓rq_r, ↓rq_e]
  refine CallG.mk (r_clashes_gr m n1 a u1 he hx hix (by simp; omega)) ?_
  cases hcy : cyB m (sub a (ys ++ [(k : Int)])) with
  | true =>
    rw [hcy, if_pos rfl] at hnx
    simp only [F_contradiction_Extend, g_contradiction_Extend, go_sem, reduceIte, Nat.reduceEqDiff, Nat.reduceAdd, Nat.reduceMul, Nat.reduceSub, reduceCtorEq, Nat.reduceLeDiff, Nat.reduceLT, Int.reduceLT, Int.reduceLE, Int.reduceToNat, Int.reduceAdd, Int.reduceSub, Int.reduceNeg, Int.reduceMul, Int.reduceEq, ← Bool.decide_and, ← Bool.decide_or, ↓tq_n, ↓tq_e, ↓tq_r, ↓bq_n, ↓bq_e, ↓bq_r, ↓rq_n, ↓rq_r, ↓rq_e]
    refine ⟨by rw [inR64]; omega, k + 1, by omega, by omega, ?_⟩
    rw [hnx]
    exact GStep.forget (by repeat' first | exact EnvLe.nil _ | refine EnvLe.cons (AV.le.of_eq rfl) ?_) hle
  | false =>
    rw [hcy, if_neg (by decide)] at hnx
    simp only [F_contradiction_Extend, g_contradiction_Extend, go_sem, reduceIte, Nat.reduceEqDiff, Nat.reduceAdd, Nat.reduceMul, Nat.reduceSub, reduceCtorEq, Nat.reduceLeDiff, Nat.reduceLT, Int.reduceLT, Int.reduceLE, Int.reduceToNat, Int.reduceAdd, Int.reduceSub, Int.reduceNeg, Int.reduceMul, Int.reduceEq, ← Bool.decide_and, ← Bool.decide_or, ↓tq_n, ↓tq_e, ↓tq_r, ↓bq_n, ↓bq_e, ↓bq_r, ↓rq_n, ↓rq_r, ↓rq_e]
    refine ⟨by rw [inR64]; omega, k + 1, by omega, by omega, ?_⟩
    rw [hnx, ← asl_gl _ rfl]
    obtain ⟨h3, q1, q2, _⟩ := hx.ret
    refine Abs.GStep.trans (e' := [(6, asl (ys ++ [(k : Int)])), (0, I m), (1, .sl n1 a.length (prs a) u1), (14, I a.length), (15, I ((k : Int) + 1))]) (h' := h3) (gstep_ofRGh rfl q1 ?_) ?_
    · repeat' first | exact EnvLe.nil _ | refine EnvLe.cons (AV.le.of_eq rfl) ?_
    · exact GStep.forget (by repeat' first | exact EnvLe.nil _ | refine EnvLe.cons (AV.le.of_eq rfl) ?_) q2
theorem r_ref_Extend (n : Int) (n1 : Bool) (a : List (Int × Int)) (u1 : Tail) (h : AH) : RCall Try.prog n_ref_Extend [I n, .sl n1 a.length (prs a) u1] h (exV n a) := by
  refine RCall.of hm cF_ref_Extend (by simp [g_ref_Extend]) fun hw h' hl => ?_
  simp only [F_ref_Extend, g_ref_Extend, go_sem, reduceIte, Nat.reduceEqDiff, Nat.reduceAdd, Nat.reduceMul, Nat.reduceSub, reduceCtorEq, Nat.reduceLeDiff, Nat.reduceLT, Int.reduceLT, Int.reduceLE, Int.reduceToNat, Int.reduceAdd, Int.reduceSub, Int.reduceNeg, Int.reduceMul, Int.reduceEq, ← Bool.decide_and, ← Bool.decide_or, ↓tq_n, ↓tq_e, ↓tq_r, ↓bq_n, ↓bq_e, ↓bq_r, ↓rq_n, ↓rq_r, ↓rq_e]
  refine CallG.mk (r_ref_Valid n n1 a u1 _) ?_
  by_cases he : Ev n a
  case neg =>
    rw [decide_eq_false he]
    simp only [F_ref_Extend, g_ref_Extend, go_sem, reduceIte, Nat.reduceEqDiff, Nat.reduceAdd, Nat.reduceMul, Nat.reduceSub, reduceCtorEq, Nat.reduceLeDiff, Nat.reduceLT, Int.reduceLT, Int.reduceLE, Int.reduceToNat, Int.reduceAdd, Int.reduceSub, Int.reduceNeg, Int.reduceMul, Int.reduceEq, ← Bool.decide_and, ← Bool.decide_or, ↓tq_n, ↓tq_e, ↓tq_r, ↓bq_n, ↓bq_e, ↓bq_r, ↓rq_n, ↓rq_r, ↓rq_e]
    exact ret_ok (by simp [exV, he])
  rw [decide_eq_true he]
  obtain ⟨m, rfl⟩ := ev_nat he
  have ha := he.2.2.1
  simp only [F_ref_Extend, g_ref_Extend, go_sem, reduceIte, Nat.reduceEqDiff, Nat.reduceAdd, Nat.reduceMul, Nat.reduceSub, reduceCtorEq, Nat.reduceLeDiff, Nat.reduceLT, Int.reduceLT, Int.reduceLE, Int.reduceToNat, Int.reduceAdd, Int.reduceSub, Int.reduceNeg, Int.reduceMul, Int.reduceEq, ← Bool.decide_and, ← Bool.decide_or, ↓tq_n, ↓tq_e, ↓tq_r, ↓bq_n, ↓bq_e, ↓bq_r, ↓rq_n, ↓rq_r, ↓rq_e]
  refine awp_loop (fun k : Nat => [(0, I m), (1, .sl n1 a.length (prs a) u1), (6, gl (i64s (exK m a k)) (exK m a k).length .unk), (7, I k)]) (fun k => h') (fun k => k ≤ a.length) (fun k => a.length - k) 0 (Nat.zero_le _) ?_ fun k hk => .of_vg hm ?_
  · refine GStep.forget ?_ (.refl _)
    refine .cons (AV.le.of_eq rfl) (.cons (AV.le.of_eq rfl) (.cons AV.le.unk (.cons (AV.le.of_eq rfl) (.nil _))))
  by_cases h3 : k < a.length
  case neg =>
    have h3 : k = a.length := by omega
    subst h3
    simp only [F_ref_Extend, g_ref_Extend, go_sem, reduceIte, Nat.reduceEqDiff, Nat.reduceAdd, Nat.reduceMul, Nat.reduceSub, reduceCtorEq, Nat.reduceLeDiff, Nat.reduceLT, Int.reduceLT, Int.reduceLE, Int.reduceToNat, Int.reduceAdd, Int.reduceSub, Int.reduceNeg, Int.reduceMul, Int.reduceEq, ← Bool.decide_and, ← Bool.decide_or, ↓tq_n, ↓tq_e, ↓tq_r, ↓bq_n, ↓bq_e, ↓bq_r, ↓rq_n, ↓rq_r, ↓rq_e]
    exact ret_ok (by simp [exV, he])
  have hc : (k : Int) < (a.length : Int) := by omega
  have hex := exK_len m a k
  have hix : Ix (a.length : Int) (exK m a k ++ [(k : Int)]) := ix_snoc (exK_ix m a k) (by omega)
  have hnx : exK m a (k + 1) = if cyB m (sub a (exK m a k ++ [(k : Int)])) then exK m a k else exK m a k ++ [(k : Int)] := rfl
  generalize exK m a k = ys at hex hix hnx ⊢
  simp only [hc, gl, F_ref_Extend, g_ref_Extend, go_sem, reduceIte, Nat.reduceEqDiff, Nat.reduceAdd, Nat.reduceMul, Nat.reduceSub, reduceCtorEq, Nat.reduceLeDiff, Nat.reduceLT, Int.reduceLT, Int.reduceLE, Int.reduceToNat, Int.reduceAdd, Int.reduceSub, Int.reduceNeg, Int.reduceMul, Int.reduceEq, ← Bool.decide_and, ← Bool.decide_or, ↓tq_n, ↓tq_e, ↓tq_r, ↓bq_n, ↓bq_e, ↓bq_r, ↓rq_n, ↓rq_r, ↓rq_e]
  refine ⟨by rw [i64s_len], by omega, by omega, TokG.mk fun t ht => ?_⟩
  simp only [F_ref_Extend, g_ref_Extend, go_sem, reduceIte, Nat.reduceEqDiff, Nat.reduceAdd, Nat.reduceMul, Nat.reduceSub, reduceCtorEq, Nat.reduceLeDiff, Nat.reduceLT, Int.reduceLT, Int.reduceLE, Int.reduceToNat, Int.reduceAdd, Int.reduceSub, Int.reduceNeg, Int.reduceMul, Int.reduceEq, ← Bool.decide_and, ← Bool.decide_or, ↓tq_n, ↓tq_e, ↓tq_r, ↓bq_n, ↓bq_e, ↓bq_r, ↓rq_n, ↓rq_r, ↓rq_e]
  refine ⟨by rw [i64s_len], by omega, by omega, ?_⟩
  have e1 : i64s ys ++ [AV.int IntKind.i64 (k : Int)] = i64s (ys ++ [(k : Int)]) := by rw [i64s_append]; rfl
  rw [e1]
  have hcl := r_ref_Cyclic m n1 a u1 he false (ys ++ [(k : Int)]) (.tok t) hix
  rw [List.length_append, List.length_singleton] at hcl
  refine CallG.mk (hcl _) ?_
  cases hcy : cyB m (sub a (ys ++ [(k : Int)])) with
  | true =>
    rw [hcy, if_pos rfl] at hnx
    simp only [F_ref_Extend, g_ref_Extend, go_sem, reduceIte, Nat.reduceEqDiff, Nat.reduceAdd, Nat.reduceMul, Nat.reduceSub, reduceCtorEq, Nat.reduceLeDiff, Nat.reduceLT, Int.reduceLT, Int.reduceLE, Int.reduceToNat, Int.reduceAdd, Int.reduceSub, Int.reduceNeg, Int.reduceMul, Int.reduceEq, ← Bool.decide_and, ← Bool.decide_or, ↓tq_n, ↓tq_e, ↓tq_r, ↓bq_n, ↓bq_e, ↓bq_r, ↓rq_n, ↓rq_r, ↓rq_e]
    refine ⟨by rw [inR64]; omega, k + 1, by omega, by omega, ?_⟩
    rw [hnx]
    refine GStep.forget ?_ (by repeat' first | exact AH.le.refl _ | assumption | (refine AH.le_put ?_ (by first | assumption | exact (AH.blk_put_ne _ _ (by assumption)).trans (by assumption) | exact AH.none_put (by assumption) | exact AH.none_put (AH.none_put (by assumption)) | (simp only [AH.blk_setTok, AH.tok_put] at *; first | assumption | exact AH.none_put (by assumption)))) | (refine AH.le_setTok ?_ (by first | assumption | exact (AH.blk_put_ne _ _ (by assumption)).trans (by assumption) | exact AH.none_put (by assumption) | exact AH.none_put (AH.none_put (by assumption)) | (simp only [AH.blk_setTok, AH.tok_put] at *; first | assumption | exact AH.none_put (by assumption)))) | (refine AH.le_putM ?_ (by first | assumption | exact (AH.mp_putM_ne _ _ (by assumption)).trans (by assumption) | (simp only [AH.mp_put, AH.mp_setTok] at *; assumption))))
    refine .cons (AV.le.of_eq rfl) (.cons (AV.le.of_eq rfl) (.cons (AV.le.of_eq rfl) (.cons (AV.le.of_eq rfl) (.nil _))))
  | false =>
    rw [hcy, if_neg (by decide)] at hnx
    simp only [F_ref_Extend, g_ref_Extend, go_sem, reduceIte, Nat.reduceEqDiff, Nat.reduceAdd, Nat.reduceMul, Nat.reduceSub, reduceCtorEq, Nat.reduceLeDiff, Nat.reduceLT, Int.reduceLT, Int.reduceLE, Int.reduceToNat, Int.reduceAdd, Int.reduceSub, Int.reduceNeg, Int.reduceMul, Int.reduceEq, ← Bool.decide_and, ← Bool.decide_or, ↓tq_n, ↓tq_e, ↓tq_r, ↓bq_n, ↓bq_e, ↓bq_r, ↓rq_n, ↓rq_r, ↓rq_e]
    refine ⟨by rw [inR64]; omega, k + 1, by omega, by omega, ?_⟩
    rw [hnx, gl_pos (by simp), List.length_append, List.length_singleton]
    refine GStep.forget ?_ (by repeat' first | exact AH.le.refl _ | assumption | (refine AH.le_put ?_ (by first | assumption | exact (AH.blk_put_ne _ _ (by assumption)).trans (by assumption) | exact AH.none_put (by assumption) | exact AH.none_put (AH.none_put (by assumption)) | (simp only [AH.blk_setTok, AH.tok_put] at *; first | assumption | exact AH.none_put (by assumption)))) | (refine AH.le_setTok ?_ (by first | assumption | exact (AH.blk_put_ne _ _ (by assumption)).trans (by assumption) | exact AH.none_put (by assumption) | exact AH.none_put (AH.none_put (by assumption)) | (simp only [AH.blk_setTok, AH.tok_put] at *; first | assumption | exact AH.none_put (by assumption)))) | (refine AH.le_putM ?_ (by first | assumption | exact (AH.mp_putM_ne _ _ (by assumption)).trans (by assumption) | (simp only [AH.mp_put, AH.mp_setTok] at *; assumption))))
    refine .cons (AV.le.of_eq rfl) (.cons (AV.le.of_eq rfl) (.cons AV.le.unk (.cons (AV.le.of_eq rfl) (.nil _))))
end Go.Proofs.Ytgfidbejffhalaa
