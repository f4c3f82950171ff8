/- Calls of functions of this seat's program: the laws DatingMoves and DatingLess. No condition. -/
import Derived.Test.YtcicklmlbdfneaaD17
import Derived.Test.YtcicklmlbdfneaaD18
namespace Go.Proofs.Ytcicklmlbdfneaa
open Go Go.Abs
set_option linter.unusedSimpArgs false
set_option linter.unusedVariables false
set_option maxRecDepth 20000

/-- Tails and nil do not matter. -/
theorem cr_congr {c c' : Cr} (h1 : c.ty = c'.ty) (h2 : c.ho = c'.ho) (h3 : c.ga = c'.ga) : Ok c = Ok c' ∧ zT c = zT c' ∧ zH c = zH c' := by
  have e1 : ∀ n, tyC c n = tyC c' n := fun n => by
    induction n with
    | zero => rfl
    | succ n ih => simp only [tyC, ih, h1]
  have e2 : ∀ n, hoC c n = hoC c' n := fun n => by
    induction n with
    | zero => rfl
    | succ n ih => simp only [hoC, ih, h1, h2]
  have e3 : ∀ n, gaC c n = gaC c' n := fun n => by
    induction n with
    | zero => rfl
    | succ n ih => simp only [gaC, ih, h3]
  have em : Mf c = Mf c' := by simp only [Mf, Mi, allC, nV, e1, e2, e3, h1, h2, h3]
  refine ⟨?_, ?_, ?_⟩
  · simp only [Ok, nV, em, h1, h2]
  · simp only [zT, zA, h1, show zv c = zv c' by funext i; simp only [zv, em]]
  · simp only [zH, zv, em, h1, h2]
theorem vc_congr {c c' : Cr} (h1 : c.ty = c'.ty) (h2 : c.ho = c'.ho) (h3 : c.ga = c'.ga) : VC c = VC c' := by simp only [VC, h1, h2, h3]

theorem r_law_moved (a b n : Int) (h : AH) (h1 : InR .i64 (a + n)) (h2 : InR .i64 (b + n)) : RCall Try.prog n_law_moved [.st [I a, I b], I n] h (.st [I (a + n), I (b + n)]) := by
  refine RCall.of hm cF_law_moved (by simp [g_law_moved]) fun hw h' hl => ?_
  simp only [F_law_moved, g_law_moved, go_sem, reduceIte, Nat.reduceEqDiff, Nat.reduceAdd, Nat.reduceMul, Nat.reduceSub, reduceCtorEq, Nat.reduceLeDiff, Nat.reduceLT, Int.reduceLT, Int.reduceLE, Int.reduceToNat, Int.reduceAdd, Int.reduceSub, Int.reduceNeg, Int.reduceMul, Int.reduceEq, ← Bool.decide_and, ← Bool.decide_or, ↓tq_n, ↓tq_e, ↓tq_r, ↓bq_n, ↓bq_e, ↓bq_r, ↓rq_n, ↓rq_r, ↓rq_e]
  refine AllocG.mk fun b0 hb => ?_
  simp only [h1, h2, F_law_moved, g_law_moved, go_sem, reduceIte, Nat.reduceEqDiff, Nat.reduceAdd, Nat.reduceMul, Nat.reduceSub, reduceCtorEq, Nat.reduceLeDiff, Nat.reduceLT, Int.reduceLT, Int.reduceLE, Int.reduceToNat, Int.reduceAdd, Int.reduceSub, Int.reduceNeg, Int.reduceMul, Int.reduceEq, ← Bool.decide_and, ← Bool.decide_or, ↓tq_n, ↓tq_e, ↓tq_r, ↓bq_n, ↓bq_e, ↓bq_r, ↓rq_n, ↓rq_r, ↓rq_e]
  refine ret_hb (by repeat' first | exact AH.le.refl _ | assumption | (refine AH.le_put ?_ (by first | assumption | exact (AH.blk_put_ne _ _ (by assumption)).trans (by assumption) | exact AH.none_put (by assumption) | exact AH.none_put (AH.none_put (by assumption)) | (simp only [AH.blk_setTok, AH.tok_put] at *; first | assumption | exact AH.none_put (by assumption)))) | (refine AH.le_setTok ?_ (by first | assumption | exact (AH.blk_put_ne _ _ (by assumption)).trans (by assumption) | exact AH.none_put (by assumption) | exact AH.none_put (AH.none_put (by assumption)) | (simp only [AH.blk_setTok, AH.tok_put] at *; first | assumption | exact AH.none_put (by assumption)))) | (refine AH.le_putM ?_ (by first | assumption | exact (AH.mp_putM_ne _ _ (by assumption)).trans (by assumption) | (simp only [AH.mp_put, AH.mp_setTok] at *; assumption)))) ?_
  rfl

theorem mv_z {c : Cr} {n : Int} (hv : VC c) (hv2 : VC (mvC c n)) (ho : Ok c) : (∀ i, i < c.ty.length → (zT (mvC c n)).getD i (0, 0) = (((zT c).getD i (0, 0)).1 + n, ((zT c).getD i (0, 0)).2 + n)) ∧
    ∀ i, i < c.ho.length → (zH (mvC c n)).getD i (0, 0) = (((zH c).getD i (0, 0)).1 + n, ((zH c).getD i (0, 0)).2 + n) := by
  have lt : (mvC c n).ty.length = c.ty.length := by simp [mvC]
  have lh : (mvC c n).ho.length = c.ho.length := by simp [mvC]
  obtain ⟨e1, e2⟩ := mv_ends hv hv2 ho
  refine ⟨fun i hi => ?_, fun i hi => ?_⟩
  · rw [zT_at _ (by rw [lt]; exact hi), zT_at _ hi]
    have := e1 i hi
    exact Prod.ext this.1 this.2
  · rw [zH_at _ (by rw [lh]; exact hi), zH_at _ hi]
    have := e2 i hi
    exact Prod.ext this.1 this.2

theorem prs_map_succ {e : List (Int × Int)} {i : Nat} (f : Int × Int → Int × Int) (h : i < e.length) : prs ((e.take (i + 1)).map f) = prs ((e.take i).map f) ++ [I (f (e.getD i (0, 0))).1, I (f (e.getD i (0, 0))).2] := by
  rw [take_map_succ f (0, 0) h, prs_append, prs_one]

set_option maxHeartbeats 2000000 in
theorem r_law_DatingMoves (c : Cr) (k : Int) (h : AH) : RCall Try.prog n_law_DatingMoves [.st c.cs, I k] h (.bool true) := by
  refine RCall.of hm cF_law_DatingMoves (by simp [g_law_DatingMoves]) fun hw h' hl => ?_
  simp only [Cr.cs, F_law_DatingMoves, g_law_DatingMoves, go_sem, reduceIte, Nat.reduceEqDiff, Nat.reduceAdd, Nat.reduceMul, Nat.reduceSub, reduceCtorEq, Nat.reduceLeDiff, Nat.reduceLT, Int.reduceLT, Int.reduceLE, Int.reduceToNat, Int.reduceAdd, Int.reduceSub, Int.reduceNeg, Int.reduceMul, Int.reduceEq, ← Bool.decide_and, ← Bool.decide_or, ↓tq_n, ↓tq_e, ↓tq_r, ↓bq_n, ↓bq_e, ↓bq_r, ↓rq_n, ↓rq_r, ↓rq_e]
  refine CallG.mk (r_law_awake _) ?_
  simp only [F_law_DatingMoves, g_law_DatingMoves, go_sem, reduceIte, Nat.reduceEqDiff, Nat.reduceAdd, Nat.reduceMul, Nat.reduceSub, reduceCtorEq, Nat.reduceLeDiff, Nat.reduceLT, Int.reduceLT, Int.reduceLE, Int.reduceToNat, Int.reduceAdd, Int.reduceSub, Int.reduceNeg, Int.reduceMul, Int.reduceEq, ← Bool.decide_and, ← Bool.decide_or, ↓tq_n, ↓tq_e, ↓tq_r, ↓bq_n, ↓bq_e, ↓bq_r, ↓rq_n, ↓rq_r, ↓rq_e]
  refine CallG.mk (r_law_few c _) ?_
  simp only [F_law_DatingMoves, g_law_DatingMoves, go_sem, reduceIte, Nat.reduceEqDiff, Nat.reduceAdd, Nat.reduceMul, Nat.reduceSub, reduceCtorEq, Nat.reduceLeDiff, Nat.reduceLT, Int.reduceLT, Int.reduceLE, Int.reduceToNat, Int.reduceAdd, Int.reduceSub, Int.reduceNeg, Int.reduceMul, Int.reduceEq, ← Bool.decide_and, ← Bool.decide_or, ↓tq_n, ↓tq_e, ↓tq_r, ↓bq_n, ↓bq_e, ↓bq_r, ↓rq_n, ↓rq_r, ↓rq_e]
  refine ⟨fun h1 => CallG.mk (r_law_awake _) ?_, fun h1 => CallG.mk (r_ref_Valid c _) ?_⟩
  · simp only [F_law_DatingMoves, g_law_DatingMoves, go_sem, reduceIte, Nat.reduceEqDiff, Nat.reduceAdd, Nat.reduceMul, Nat.reduceSub, reduceCtorEq, Nat.reduceLeDiff, Nat.reduceLT, Int.reduceLT, Int.reduceLE, Int.reduceToNat, Int.reduceAdd, Int.reduceSub, Int.reduceNeg, Int.reduceMul, Int.reduceEq, ← Bool.decide_and, ← Bool.decide_or, ↓tq_n, ↓tq_e, ↓tq_r, ↓bq_n, ↓bq_e, ↓bq_r, ↓rq_n, ↓rq_r, ↓rq_e]; exact ret_ok rfl
  by_cases hv : VC c
  case neg =>
    simp only [decide_eq_false hv, F_law_DatingMoves, g_law_DatingMoves, go_sem, reduceIte, Nat.reduceEqDiff, Nat.reduceAdd, Nat.reduceMul, Nat.reduceSub, reduceCtorEq, Nat.reduceLeDiff, Nat.reduceLT, Int.reduceLT, Int.reduceLE, Int.reduceToNat, Int.reduceAdd, Int.reduceSub, Int.reduceNeg, Int.reduceMul, Int.reduceEq, ← Bool.decide_and, ← Bool.decide_or, ↓tq_n, ↓tq_e, ↓tq_r, ↓bq_n, ↓bq_e, ↓bq_r, ↓rq_n, ↓rq_r, ↓rq_e]
    refine CallG.mk (r_law_awake _) ?_
    simp only [F_law_DatingMoves, g_law_DatingMoves, go_sem, reduceIte, Nat.reduceEqDiff, Nat.reduceAdd, Nat.reduceMul, Nat.reduceSub, reduceCtorEq, Nat.reduceLeDiff, Nat.reduceLT, Int.reduceLT, Int.reduceLE, Int.reduceToNat, Int.reduceAdd, Int.reduceSub, Int.reduceNeg, Int.reduceMul, Int.reduceEq, ← Bool.decide_and, ← Bool.decide_or, ↓tq_n, ↓tq_e, ↓tq_r, ↓bq_n, ↓bq_e, ↓bq_r, ↓rq_n, ↓rq_r, ↓rq_e]
    exact ret_ok rfl
  simp only [decide_eq_true hv, F_law_DatingMoves, g_law_DatingMoves, go_sem, reduceIte, Nat.reduceEqDiff, Nat.reduceAdd, Nat.reduceMul, Nat.reduceSub, reduceCtorEq, Nat.reduceLeDiff, Nat.reduceLT, Int.reduceLT, Int.reduceLE, Int.reduceToNat, Int.reduceAdd, Int.reduceSub, Int.reduceNeg, Int.reduceMul, Int.reduceEq, ← Bool.decide_and, ← Bool.decide_or, ↓tq_n, ↓tq_e, ↓tq_r, ↓bq_n, ↓bq_e, ↓bq_r, ↓rq_n, ↓rq_r, ↓rq_e]
  refine CallG.mk (r_base_Mod k 400 _ (by omega)) ?_
  obtain ⟨n, hn⟩ : ∃ n, n = k % 400 - 200 := ⟨_, rfl⟩
  have n1 := Int.emod_nonneg k (show (400 : Int) ≠ 0 by omega)
  have n2 := Int.emod_lt_of_pos k (show (0 : Int) < 400 by omega)
  obtain ⟨b8, b6, b16⟩ := hv.1
  simp only [← hn, F_law_DatingMoves, g_law_DatingMoves, go_sem, reduceIte, Nat.reduceEqDiff, Nat.reduceAdd, Nat.reduceMul, Nat.reduceSub, reduceCtorEq, Nat.reduceLeDiff, Nat.reduceLT, Int.reduceLT, Int.reduceLE, Int.reduceToNat, Int.reduceAdd, Int.reduceSub, Int.reduceNeg, Int.reduceMul, Int.reduceEq, ← Bool.decide_and, ← Bool.decide_or, ↓tq_n, ↓tq_e, ↓tq_r, ↓bq_n, ↓bq_e, ↓bq_r, ↓rq_n, ↓rq_r, ↓rq_e]
  refine ⟨by rw [inR64]; omega, AllocG.mk fun b5 hb5 => ?_⟩
  simp only [F_law_DatingMoves, g_law_DatingMoves, go_sem, reduceIte, Nat.reduceEqDiff, Nat.reduceAdd, Nat.reduceMul, Nat.reduceSub, reduceCtorEq, Nat.reduceLeDiff, Nat.reduceLT, Int.reduceLT, Int.reduceLE, Int.reduceToNat, Int.reduceAdd, Int.reduceSub, Int.reduceNeg, Int.reduceMul, Int.reduceEq, ← Bool.decide_and, ← Bool.decide_or, ↓tq_n, ↓tq_e, ↓tq_r, ↓bq_n, ↓bq_e, ↓bq_r, ↓rq_n, ↓rq_r, ↓rq_e]
  refine awp_tokB b5 0 2 (nl := true) (n := 0) (cs := []) (AH.blk_put _ _ _) rfl fun t ht => ?_
  have ht0 : h'.tok t = none := ht
  obtain ⟨mv, hmv⟩ : ∃ mv : Int × Int → Int × Int, mv = fun p => (p.1 + n, p.2 + n) := ⟨_, rfl⟩
  refine awp_loop (fun i : Nat => [(1, I n), (2, .sptr c.cs), (5, .ptr b5 0), (6, I i)]) (fun i => (h'.setTok t i 2).put b5 [gl (prs ((c.ty.take i).map mv)) i (.tok t), .sl true 0 [] .full, .sl c.nlG c.ga.length (trs c.ga) c.tlG]) (fun i => i ≤ c.ty.length) (fun i => c.ty.length - i) 0 (Nat.zero_le _) (by rw [AH.put_put, AH.put_setTok]; exact (GStep.forget (by repeat' first | exact EnvLe.nil _ | refine EnvLe.cons (AV.le.of_eq rfl) ?_ | refine EnvLe.cons (AV.le.undef _) ?_ | refine EnvLe.cons AV.le.unk ?_) (by repeat' first | exact AH.le.refl _ | assumption | (refine AH.le_put ?_ (by first | assumption | exact (AH.blk_put_ne _ _ (by assumption)).trans (by assumption) | exact AH.none_put (by assumption) | exact AH.none_put (AH.none_put (by assumption)) | (simp only [AH.blk_setTok, AH.tok_put] at *; first | assumption | exact AH.none_put (by assumption)))) | (refine AH.le_setTok ?_ (by first | assumption | exact (AH.blk_put_ne _ _ (by assumption)).trans (by assumption) | exact AH.none_put (by assumption) | exact AH.none_put (AH.none_put (by assumption)) | (simp only [AH.blk_setTok, AH.tok_put] at *; first | assumption | exact AH.none_put (by assumption)))) | (refine AH.le_putM ?_ (by first | assumption | exact (AH.mp_putM_ne _ _ (by assumption)).trans (by assumption) | (simp only [AH.mp_put, AH.mp_setTok] at *; assumption)))))) fun i hi => .of_vg hm ?_
  by_cases h3 : i < c.ty.length
  · have hc3 : (i : Int) < (c.ty.length : Int) := by omega
    have hy := hv.2.1 i h3
    unfold Yv at hy
    have e1 := prs_map_succ mv h3
    rw [hmv] at e1 ⊢
    have hlen : (prs ((c.ty.take i).map fun p => (p.1 + n, p.2 + n))).length = i * 2 := by rw [prs_len]; simp; omega
    simp only [Cr.cs, hc3, prs_drop h3, F_law_DatingMoves, g_law_DatingMoves, go_sem, reduceIte, Nat.reduceEqDiff, Nat.reduceAdd, Nat.reduceMul, Nat.reduceSub, reduceCtorEq, Nat.reduceLeDiff, Nat.reduceLT, Int.reduceLT, Int.reduceLE, Int.reduceToNat, Int.reduceAdd, Int.reduceSub, Int.reduceNeg, Int.reduceMul, Int.reduceEq, ← Bool.decide_and, ← Bool.decide_or, ↓tq_n, ↓tq_e, ↓tq_r, ↓bq_n, ↓bq_e, ↓bq_r, ↓rq_n, ↓rq_r, ↓rq_e]
    refine CallG.mk (r_law_moved _ _ n _ (by rw [inR64]; omega) (by rw [inR64]; omega)) ?_
    simp only [hlen, F_law_DatingMoves, g_law_DatingMoves, go_sem, reduceIte, Nat.reduceEqDiff, Nat.reduceAdd, Nat.reduceMul, Nat.reduceSub, reduceCtorEq, Nat.reduceLeDiff, Nat.reduceLT, Int.reduceLT, Int.reduceLE, Int.reduceToNat, Int.reduceAdd, Int.reduceSub, Int.reduceNeg, Int.reduceMul, Int.reduceEq, ← Bool.decide_and, ← Bool.decide_or, ↓tq_n, ↓tq_e, ↓tq_r, ↓bq_n, ↓bq_e, ↓bq_r, ↓rq_n, ↓rq_r, ↓rq_e]
    refine ⟨by omega, by omega, by rw [inR64]; omega, i + 1, by omega, by omega, ?_⟩
    rw [e1]
    exact (GStep.forget (by repeat' first | exact EnvLe.nil _ | refine EnvLe.cons (AV.le.of_eq rfl) ?_ | refine EnvLe.cons (AV.le.undef _) ?_ | refine EnvLe.cons AV.le.unk ?_) (by repeat' first | exact AH.le.refl _ | assumption | (refine AH.le_put ?_ (by first | assumption | exact (AH.blk_put_ne _ _ (by assumption)).trans (by assumption) | exact AH.none_put (by assumption) | exact AH.none_put (AH.none_put (by assumption)) | (simp only [AH.blk_setTok, AH.tok_put] at *; first | assumption | exact AH.none_put (by assumption)))) | (refine AH.le_setTok ?_ (by first | assumption | exact (AH.blk_put_ne _ _ (by assumption)).trans (by assumption) | exact AH.none_put (by assumption) | exact AH.none_put (AH.none_put (by assumption)) | (simp only [AH.blk_setTok, AH.tok_put] at *; first | assumption | exact AH.none_put (by assumption)))) | (refine AH.le_putM ?_ (by first | assumption | exact (AH.mp_putM_ne _ _ (by assumption)).trans (by assumption) | (simp only [AH.mp_put, AH.mp_setTok] at *; assumption)))))
  have h3 : i = c.ty.length := by omega
  subst h3
  rw [List.take_length]
  simp only [Cr.cs, F_law_DatingMoves, g_law_DatingMoves, go_sem, reduceIte, Nat.reduceEqDiff, Nat.reduceAdd, Nat.reduceMul, Nat.reduceSub, reduceCtorEq, Nat.reduceLeDiff, Nat.reduceLT, Int.reduceLT, Int.reduceLE, Int.reduceToNat, Int.reduceAdd, Int.reduceSub, Int.reduceNeg, Int.reduceMul, Int.reduceEq, ← Bool.decide_and, ← Bool.decide_or, ↓tq_n, ↓tq_e, ↓tq_r, ↓bq_n, ↓bq_e, ↓bq_r, ↓rq_n, ↓rq_r, ↓rq_e]
  refine awp_tokB b5 1 4 (nl := true) (n := 0) (cs := []) (AH.blk_put _ _ _) rfl fun u hu => ?_
  have hu0 : h'.tok u = none := by
    have hne : u ≠ t := fun hh => by subst hh; rw [AH.tok_put, AH.tok_setTok] at hu; cases hu
    simp only [AH.setTok, AH.put] at hu
    rw [if_neg hne] at hu
    exact hu
  obtain ⟨mh, hmh⟩ : ∃ mh : Hd → Hd, mh = fun x => { x with cl := (x.cl.1 + n, x.cl.2 + n) } := ⟨_, rfl⟩
  refine awp_loop (fun i : Nat => [(1, I n), (2, .sptr c.cs), (5, .ptr b5 0), (7, I i)]) (fun i => (h'.setTok u i 4).put b5 [gl (prs (c.ty.map mv)) c.ty.length (.tok t), gl (((c.ho.take i).map mh).flatMap Hd.cs) i (.tok u), .sl c.nlG c.ga.length (trs c.ga) c.tlG]) (fun i => i ≤ c.ho.length) (fun i => c.ho.length - i) 0 (Nat.zero_le _) ?_ fun i hi => .of_vg hm ?_
  · refine GStep.forget (by repeat' first | exact EnvLe.nil _ | refine EnvLe.cons (AV.le.of_eq rfl) ?_ | refine EnvLe.cons (AV.le.undef _) ?_ | refine EnvLe.cons AV.le.unk ?_) ?_
    simp only [List.set_cons_zero, List.set_cons_succ, AH.put_setTok, AH.put_put]
    exact AH.le_put2 (AH.le_setTok2 (AH.le_setTok (.refl _) ht0))
  by_cases h3 : i < c.ho.length
  · have hc3 : (i : Int) < (c.ho.length : Int) := by omega
    have hy := (hv.2.2.1 i h3).1.2.2.2
    unfold Yv at hy
    have e1 : ((c.ho.take (i + 1)).map mh).flatMap Hd.cs = ((c.ho.take i).map mh).flatMap Hd.cs ++ (mh (c.ho.getD i dH)).cs := by rw [take_map_succ mh dH h3, List.flatMap_append, List.flatMap_singleton]
    have hlen : (((c.ho.take i).map mh).flatMap Hd.cs).length = i * 4 := by rw [flat_len hd_len]; simp; omega
    simp only [Cr.cs, hc3, hds_drop h3, F_law_DatingMoves, g_law_DatingMoves, go_sem, reduceIte, Nat.reduceEqDiff, Nat.reduceAdd, Nat.reduceMul, Nat.reduceSub, reduceCtorEq, Nat.reduceLeDiff, Nat.reduceLT, Int.reduceLT, Int.reduceLE, Int.reduceToNat, Int.reduceAdd, Int.reduceSub, Int.reduceNeg, Int.reduceMul, Int.reduceEq, ← Bool.decide_and, ← Bool.decide_or, ↓tq_n, ↓tq_e, ↓tq_r, ↓bq_n, ↓bq_e, ↓bq_r, ↓rq_n, ↓rq_r, ↓rq_e]
    refine AllocG.mk fun b9 hb9 => ?_
    have h59 : b5 ≠ b9 := fun hh => by subst hh; rw [AH.blk_put] at hb9; cases hb9
    simp only [F_law_DatingMoves, g_law_DatingMoves, go_sem, reduceIte, Nat.reduceEqDiff, Nat.reduceAdd, Nat.reduceMul, Nat.reduceSub, reduceCtorEq, Nat.reduceLeDiff, Nat.reduceLT, Int.reduceLT, Int.reduceLE, Int.reduceToNat, Int.reduceAdd, Int.reduceSub, Int.reduceNeg, Int.reduceMul, Int.reduceEq, ← Bool.decide_and, ← Bool.decide_or, ↓tq_n, ↓tq_e, ↓tq_r, ↓bq_n, ↓bq_e, ↓bq_r, ↓rq_n, ↓rq_r, ↓rq_e]
    refine CallG.mk (r_law_moved _ _ n _ (by rw [inR64]; omega) (by rw [inR64]; omega)) ?_
    simp only [hlen, AH.blk_put_ne _ _ h59, F_law_DatingMoves, g_law_DatingMoves, go_sem, reduceIte, Nat.reduceEqDiff, Nat.reduceAdd, Nat.reduceMul, Nat.reduceSub, reduceCtorEq, Nat.reduceLeDiff, Nat.reduceLT, Int.reduceLT, Int.reduceLE, Int.reduceToNat, Int.reduceAdd, Int.reduceSub, Int.reduceNeg, Int.reduceMul, Int.reduceEq, ← Bool.decide_and, ← Bool.decide_or, ↓tq_n, ↓tq_e, ↓tq_r, ↓bq_n, ↓bq_e, ↓bq_r, ↓rq_n, ↓rq_r, ↓rq_e]
    refine ⟨by omega, by omega, by rw [inR64]; omega, i + 1, by omega, by omega, ?_⟩
    rw [e1, hmh]
    simp only [Hd.cs]
    rw [AH.put_comm _ _ _ h59, AH.put_put]
    refine GStep.forget (by repeat' first | exact EnvLe.nil _ | refine EnvLe.cons (AV.le.of_eq rfl) ?_ | refine EnvLe.cons (AV.le.undef _) ?_ | refine EnvLe.cons AV.le.unk ?_) (AH.le_put2 (AH.le_put (.refl _) ?_))
    rw [AH.blk_put_ne _ _ h59.symm] at hb9
    exact hb9
  have h3 : i = c.ho.length := by omega
  subst h3
  rw [List.take_length]
  clear hi
  obtain ⟨c2, hc2⟩ : ∃ c2 : Cr, c2 = ⟨decide (c.ty.length = 0), c.ty.map mv, .tok t, decide (c.ho.length = 0), c.ho.map mh, .tok u, c.nlG, c.ga, c.tlG⟩ := ⟨_, rfl⟩
  have q1 : c2.ty = (mvC c n).ty := by rw [hc2, hmv]; rfl
  have q2 : c2.ho = (mvC c n).ho := by rw [hc2, hmh]; rfl
  have q3 : c2.ga = (mvC c n).ga := by rw [hc2]; rfl
  obtain ⟨qo, qT, qH⟩ := cr_congr q1 q2 q3
  have qv := vc_congr q1 q2 q3
  have lt : c2.ty.length = c.ty.length := by rw [q1]; simp [mvC]
  have lh : c2.ho.length = c.ho.length := by rw [q2]; simp [mvC]
  have hst : (AV.st c2.cs) = .st [gl (prs (c.ty.map mv)) c.ty.length (.tok t), gl ((c.ho.map mh).flatMap Hd.cs) c.ho.length (.tok u), .sl c.nlG c.ga.length (trs c.ga) c.tlG] := by
    rw [hc2]; simp only [Cr.cs, List.length_map]; rfl
  simp only [Cr.cs, F_law_DatingMoves, g_law_DatingMoves, go_sem, reduceIte, Nat.reduceEqDiff, Nat.reduceAdd, Nat.reduceMul, Nat.reduceSub, reduceCtorEq, Nat.reduceLeDiff, Nat.reduceLT, Int.reduceLT, Int.reduceLE, Int.reduceToNat, Int.reduceAdd, Int.reduceSub, Int.reduceNeg, Int.reduceMul, Int.reduceEq, ← Bool.decide_and, ← Bool.decide_or, ↓tq_n, ↓tq_e, ↓tq_r, ↓bq_n, ↓bq_e, ↓bq_r, ↓rq_n, ↓rq_r, ↓rq_e]
  refine CallG.mk (by rw [← hst]; exact r_ref_Valid c2 _) ?_
  by_cases hv2 : VC c2
  case neg =>
    simp only [decide_eq_false hv2, F_law_DatingMoves, g_law_DatingMoves, go_sem, reduceIte, Nat.reduceEqDiff, Nat.reduceAdd, Nat.reduceMul, Nat.reduceSub, reduceCtorEq, Nat.reduceLeDiff, Nat.reduceLT, Int.reduceLT, Int.reduceLE, Int.reduceToNat, Int.reduceAdd, Int.reduceSub, Int.reduceNeg, Int.reduceMul, Int.reduceEq, ← Bool.decide_and, ← Bool.decide_or, ↓tq_n, ↓tq_e, ↓tq_r, ↓bq_n, ↓bq_e, ↓bq_r, ↓rq_n, ↓rq_r, ↓rq_e]
    exact ret_hb (AH.le_put (AH.le_setTok (.refl _) hu0) hb5) rfl
  simp only [decide_eq_true hv2, F_law_DatingMoves, g_law_DatingMoves, go_sem, reduceIte, Nat.reduceEqDiff, Nat.reduceAdd, Nat.reduceMul, Nat.reduceSub, reduceCtorEq, Nat.reduceLeDiff, Nat.reduceLT, Int.reduceLT, Int.reduceLE, Int.reduceToNat, Int.reduceAdd, Int.reduceSub, Int.reduceNeg, Int.reduceMul, Int.reduceEq, ← Bool.decide_and, ← Bool.decide_or, ↓tq_n, ↓tq_e, ↓tq_r, ↓bq_n, ↓bq_e, ↓bq_r, ↓rq_n, ↓rq_r, ↓rq_e]
  refine CallG.mk (r_dating_Dates c _) ?_
  have hv3 : VC (mvC c n) := by rw [← qv]; exact hv2
  have ho2 : Ok c2 = Ok c := by rw [qo]; exact propext (mv_ok hv hv3)
  by_cases ho : Ok c
  case neg =>
    have ho3 : ¬ Ok c2 := by rw [ho2]; exact ho
    unfold datesV
    simp only [hv, ho, if_true, if_false]
    simp only [F_law_DatingMoves, g_law_DatingMoves, go_sem, reduceIte, Nat.reduceEqDiff, Nat.reduceAdd, Nat.reduceMul, Nat.reduceSub, reduceCtorEq, Nat.reduceLeDiff, Nat.reduceLT, Int.reduceLT, Int.reduceLE, Int.reduceToNat, Int.reduceAdd, Int.reduceSub, Int.reduceNeg, Int.reduceMul, Int.reduceEq, ← Bool.decide_and, ← Bool.decide_or, ↓tq_n, ↓tq_e, ↓tq_r, ↓bq_n, ↓bq_e, ↓bq_r, ↓rq_n, ↓rq_r, ↓rq_e]
    refine CallG.mk (by rw [← hst]; exact r_dating_Dates c2 _) ?_
    unfold datesV
    simp only [hv2, ho3, if_true, if_false]
    simp only [F_law_DatingMoves, g_law_DatingMoves, go_sem, reduceIte, Nat.reduceEqDiff, Nat.reduceAdd, Nat.reduceMul, Nat.reduceSub, reduceCtorEq, Nat.reduceLeDiff, Nat.reduceLT, Int.reduceLT, Int.reduceLE, Int.reduceToNat, Int.reduceAdd, Int.reduceSub, Int.reduceNeg, Int.reduceMul, Int.reduceEq, ← Bool.decide_and, ← Bool.decide_or, ↓tq_n, ↓tq_e, ↓tq_r, ↓bq_n, ↓bq_e, ↓bq_r, ↓rq_n, ↓rq_r, ↓rq_e]
    refine awp_loop (fun _ : Nat => [(9, .sl true 0 [] .full), (10, .sl true 0 [] .full), (15, I 0)]) (fun _ => h') (fun _ => True) (fun i => i) 0 trivial (GStep.forget (by repeat' first | exact EnvLe.nil _ | refine EnvLe.cons (AV.le.of_eq rfl) ?_ | refine EnvLe.cons (AV.le.undef _) ?_ | refine EnvLe.cons AV.le.unk ?_) (AH.le_put (AH.le_setTok (.refl _) hu0) hb5)) fun i hi => .of_vg hm ?_
    have z0 : ((0 : Nat) : Int) = 0 := rfl
    simp only [z0, F_law_DatingMoves, g_law_DatingMoves, go_sem, reduceIte, Nat.reduceEqDiff, Nat.reduceAdd, Nat.reduceMul, Nat.reduceSub, reduceCtorEq, Nat.reduceLeDiff, Nat.reduceLT, Int.reduceLT, Int.reduceLE, Int.reduceToNat, Int.reduceAdd, Int.reduceSub, Int.reduceNeg, Int.reduceMul, Int.reduceEq, ← Bool.decide_and, ← Bool.decide_or, ↓tq_n, ↓tq_e, ↓tq_r, ↓bq_n, ↓bq_e, ↓bq_r, ↓rq_n, ↓rq_r, ↓rq_e]
    refine awp_loop (fun _ : Nat => [(10, .sl true 0 [] .full), (16, I 0)]) (fun _ => h') (fun _ => True) (fun i => i) 0 trivial (GStep.forget (by repeat' first | exact EnvLe.nil _ | refine EnvLe.cons (AV.le.of_eq rfl) ?_ | refine EnvLe.cons (AV.le.undef _) ?_ | refine EnvLe.cons AV.le.unk ?_) (by repeat' first | exact AH.le.refl _ | assumption | (refine AH.le_put ?_ (by first | assumption | exact (AH.blk_put_ne _ _ (by assumption)).trans (by assumption) | exact AH.none_put (by assumption) | exact AH.none_put (AH.none_put (by assumption)) | (simp only [AH.blk_setTok, AH.tok_put] at *; first | assumption | exact AH.none_put (by assumption)))) | (refine AH.le_setTok ?_ (by first | assumption | exact (AH.blk_put_ne _ _ (by assumption)).trans (by assumption) | exact AH.none_put (by assumption) | exact AH.none_put (AH.none_put (by assumption)) | (simp only [AH.blk_setTok, AH.tok_put] at *; first | assumption | exact AH.none_put (by assumption)))) | (refine AH.le_putM ?_ (by first | assumption | exact (AH.mp_putM_ne _ _ (by assumption)).trans (by assumption) | (simp only [AH.mp_put, AH.mp_setTok] at *; assumption))))) fun i hi => .of_vg hm ?_
    simp only [z0, F_law_DatingMoves, g_law_DatingMoves, go_sem, reduceIte, Nat.reduceEqDiff, Nat.reduceAdd, Nat.reduceMul, Nat.reduceSub, reduceCtorEq, Nat.reduceLeDiff, Nat.reduceLT, Int.reduceLT, Int.reduceLE, Int.reduceToNat, Int.reduceAdd, Int.reduceSub, Int.reduceNeg, Int.reduceMul, Int.reduceEq, ← Bool.decide_and, ← Bool.decide_or, ↓tq_n, ↓tq_e, ↓tq_r, ↓bq_n, ↓bq_e, ↓bq_r, ↓rq_n, ↓rq_r, ↓rq_e]
    exact ret_ok rfl
  have ho3 : Ok c2 := by rw [ho2]; exact ho
  obtain ⟨eT, eH⟩ := mv_z hv hv3 ho
  rw [← qT] at eT
  rw [← qH] at eH
  have zl := zT_len c2
  have zl2 := zH_len c2
  rw [lt] at zl
  rw [lh] at zl2
  have kl := zT_len c
  have kl2 := zH_len c
  unfold datesV
  simp only [hv, ho, if_true]
  simp only [F_law_DatingMoves, g_law_DatingMoves, go_sem, reduceIte, Nat.reduceEqDiff, Nat.reduceAdd, Nat.reduceMul, Nat.reduceSub, reduceCtorEq, Nat.reduceLeDiff, Nat.reduceLT, Int.reduceLT, Int.reduceLE, Int.reduceToNat, Int.reduceAdd, Int.reduceSub, Int.reduceNeg, Int.reduceMul, Int.reduceEq, ← Bool.decide_and, ← Bool.decide_or, ↓tq_n, ↓tq_e, ↓tq_r, ↓bq_n, ↓bq_e, ↓bq_r, ↓rq_n, ↓rq_r, ↓rq_e]
  refine CallG.mk (by rw [← hst]; exact r_dating_Dates c2 _) ?_
  unfold datesV
  simp only [hv2, ho3, if_true, lt, lh]
  simp only [F_law_DatingMoves, g_law_DatingMoves, go_sem, reduceIte, Nat.reduceEqDiff, Nat.reduceAdd, Nat.reduceMul, Nat.reduceSub, reduceCtorEq, Nat.reduceLeDiff, Nat.reduceLT, Int.reduceLT, Int.reduceLE, Int.reduceToNat, Int.reduceAdd, Int.reduceSub, Int.reduceNeg, Int.reduceMul, Int.reduceEq, ← Bool.decide_and, ← Bool.decide_or, ↓tq_n, ↓tq_e, ↓tq_r, ↓bq_n, ↓bq_e, ↓bq_r, ↓rq_n, ↓rq_r, ↓rq_e]
  refine awp_loop (fun i : Nat => [(1, I n), (9, .sl (decide (c.ty.length + c.ho.length = 0)) c.ty.length (prs (zT c)) .unk), (10, .sl (decide (c.ty.length + c.ho.length = 0)) c.ho.length (prs (zH c)) .unk), (12, .sl (decide (c.ty.length + c.ho.length = 0)) c.ty.length (prs (zT c2)) .unk), (13, .sl (decide (c.ty.length + c.ho.length = 0)) c.ho.length (prs (zH c2)) .unk), (15, I i)]) (fun _ => h') (fun i => i ≤ c.ty.length) (fun i => c.ty.length - i) 0 (Nat.zero_le _) (GStep.forget (by repeat' first | exact EnvLe.nil _ | refine EnvLe.cons (AV.le.of_eq rfl) ?_ | refine EnvLe.cons (AV.le.undef _) ?_ | refine EnvLe.cons AV.le.unk ?_) (AH.le_put (AH.le_setTok (.refl _) hu0) hb5)) fun i hi => .of_vg hm ?_
  by_cases h3 : i < c.ty.length
  · have hc3 : (i : Int) < (c.ty.length : Int) := by omega
    have hz := zv_rng hv ho (i := i) (by unfold nV; omega)
    have hzg : (zT c).getD i (0, 0) = zv c i := by simp [zT, zA, List.getD, h3]
    rw [← hzg] at hz
    have d2 := prs_drop (e := zT c2) (i := i) (by omega)
    rw [eT i h3] at d2
    simp only [hc3, prs_drop (e := zT c) (i := i) (by omega), F_law_DatingMoves, g_law_DatingMoves, go_sem, reduceIte, Nat.reduceEqDiff, Nat.reduceAdd, Nat.reduceMul, Nat.reduceSub, reduceCtorEq, Nat.reduceLeDiff, Nat.reduceLT, Int.reduceLT, Int.reduceLE, Int.reduceToNat, Int.reduceAdd, Int.reduceSub, Int.reduceNeg, Int.reduceMul, Int.reduceEq, ← Bool.decide_and, ← Bool.decide_or, ↓tq_n, ↓tq_e, ↓tq_r, ↓bq_n, ↓bq_e, ↓bq_r, ↓rq_n, ↓rq_r, ↓rq_e]
    refine CallG.mk (r_law_moved _ _ n _ (by rw [inR64]; omega) (by rw [inR64]; omega)) ?_
    simp only [hc3, d2, eqCells, F_law_DatingMoves, g_law_DatingMoves, go_sem, reduceIte, Nat.reduceEqDiff, Nat.reduceAdd, Nat.reduceMul, Nat.reduceSub, reduceCtorEq, Nat.reduceLeDiff, Nat.reduceLT, Int.reduceLT, Int.reduceLE, Int.reduceToNat, Int.reduceAdd, Int.reduceSub, Int.reduceNeg, Int.reduceMul, Int.reduceEq, ← Bool.decide_and, ← Bool.decide_or, ↓tq_n, ↓tq_e, ↓tq_r, ↓bq_n, ↓bq_e, ↓bq_r, ↓rq_n, ↓rq_r, ↓rq_e]
    exact ⟨by rw [inR64]; omega, i + 1, by omega, by omega, (GStep.forget (by repeat' first | exact EnvLe.nil _ | refine EnvLe.cons (AV.le.of_eq rfl) ?_ | refine EnvLe.cons (AV.le.undef _) ?_ | refine EnvLe.cons AV.le.unk ?_) (by repeat' first | exact AH.le.refl _ | assumption | (refine AH.le_put ?_ (by first | assumption | exact (AH.blk_put_ne _ _ (by assumption)).trans (by assumption) | exact AH.none_put (by assumption) | exact AH.none_put (AH.none_put (by assumption)) | (simp only [AH.blk_setTok, AH.tok_put] at *; first | assumption | exact AH.none_put (by assumption)))) | (refine AH.le_setTok ?_ (by first | assumption | exact (AH.blk_put_ne _ _ (by assumption)).trans (by assumption) | exact AH.none_put (by assumption) | exact AH.none_put (AH.none_put (by assumption)) | (simp only [AH.blk_setTok, AH.tok_put] at *; first | assumption | exact AH.none_put (by assumption)))) | (refine AH.le_putM ?_ (by first | assumption | exact (AH.mp_putM_ne _ _ (by assumption)).trans (by assumption) | (simp only [AH.mp_put, AH.mp_setTok] at *; assumption)))))⟩
  have h3 : i = c.ty.length := by omega
  subst h3
  clear hi
  simp only [F_law_DatingMoves, g_law_DatingMoves, go_sem, reduceIte, Nat.reduceEqDiff, Nat.reduceAdd, Nat.reduceMul, Nat.reduceSub, reduceCtorEq, Nat.reduceLeDiff, Nat.reduceLT, Int.reduceLT, Int.reduceLE, Int.reduceToNat, Int.reduceAdd, Int.reduceSub, Int.reduceNeg, Int.reduceMul, Int.reduceEq, ← Bool.decide_and, ← Bool.decide_or, ↓tq_n, ↓tq_e, ↓tq_r, ↓bq_n, ↓bq_e, ↓bq_r, ↓rq_n, ↓rq_r, ↓rq_e]
  refine awp_loop (fun i : Nat => [(1, I n), (10, .sl (decide (c.ty.length + c.ho.length = 0)) c.ho.length (prs (zH c)) .unk), (13, .sl (decide (c.ty.length + c.ho.length = 0)) c.ho.length (prs (zH c2)) .unk), (16, I i)]) (fun _ => h') (fun i => i ≤ c.ho.length) (fun i => c.ho.length - i) 0 (Nat.zero_le _) (GStep.forget (by repeat' first | exact EnvLe.nil _ | refine EnvLe.cons (AV.le.of_eq rfl) ?_ | refine EnvLe.cons (AV.le.undef _) ?_ | refine EnvLe.cons AV.le.unk ?_) (by repeat' first | exact AH.le.refl _ | assumption | (refine AH.le_put ?_ (by first | assumption | exact (AH.blk_put_ne _ _ (by assumption)).trans (by assumption) | exact AH.none_put (by assumption) | exact AH.none_put (AH.none_put (by assumption)) | (simp only [AH.blk_setTok, AH.tok_put] at *; first | assumption | exact AH.none_put (by assumption)))) | (refine AH.le_setTok ?_ (by first | assumption | exact (AH.blk_put_ne _ _ (by assumption)).trans (by assumption) | exact AH.none_put (by assumption) | exact AH.none_put (AH.none_put (by assumption)) | (simp only [AH.blk_setTok, AH.tok_put] at *; first | assumption | exact AH.none_put (by assumption)))) | (refine AH.le_putM ?_ (by first | assumption | exact (AH.mp_putM_ne _ _ (by assumption)).trans (by assumption) | (simp only [AH.mp_put, AH.mp_setTok] at *; assumption))))) fun i hi => .of_vg hm ?_
  by_cases h3 : i < c.ho.length
  · have hc3 : (i : Int) < (c.ho.length : Int) := by omega
    have hz := zv_rng hv ho (i := c.ty.length + i) (by unfold nV; omega)
    have hzg : (zH c).getD i (0, 0) = zv c (c.ty.length + i) := by simp [zH, List.getD, h3]
    rw [← hzg] at hz
    have d2 := prs_drop (e := zH c2) (i := i) (by omega)
    rw [eH i h3] at d2
    simp only [hc3, prs_drop (e := zH c) (i := i) (by omega), F_law_DatingMoves, g_law_DatingMoves, go_sem, reduceIte, Nat.reduceEqDiff, Nat.reduceAdd, Nat.reduceMul, Nat.reduceSub, reduceCtorEq, Nat.reduceLeDiff, Nat.reduceLT, Int.reduceLT, Int.reduceLE, Int.reduceToNat, Int.reduceAdd, Int.reduceSub, Int.reduceNeg, Int.reduceMul, Int.reduceEq, ← Bool.decide_and, ← Bool.decide_or, ↓tq_n, ↓tq_e, ↓tq_r, ↓bq_n, ↓bq_e, ↓bq_r, ↓rq_n, ↓rq_r, ↓rq_e]
    refine CallG.mk (r_law_moved _ _ n _ (by rw [inR64]; omega) (by rw [inR64]; omega)) ?_
    simp only [hc3, d2, eqCells, F_law_DatingMoves, g_law_DatingMoves, go_sem, reduceIte, Nat.reduceEqDiff, Nat.reduceAdd, Nat.reduceMul, Nat.reduceSub, reduceCtorEq, Nat.reduceLeDiff, Nat.reduceLT, Int.reduceLT, Int.reduceLE, Int.reduceToNat, Int.reduceAdd, Int.reduceSub, Int.reduceNeg, Int.reduceMul, Int.reduceEq, ← Bool.decide_and, ← Bool.decide_or, ↓tq_n, ↓tq_e, ↓tq_r, ↓bq_n, ↓bq_e, ↓bq_r, ↓rq_n, ↓rq_r, ↓rq_e]
    exact ⟨by rw [inR64]; omega, i + 1, by omega, by omega, (GStep.forget (by repeat' first | exact EnvLe.nil _ | refine EnvLe.cons (AV.le.of_eq rfl) ?_ | refine EnvLe.cons (AV.le.undef _) ?_ | refine EnvLe.cons AV.le.unk ?_) (by repeat' first | exact AH.le.refl _ | assumption | (refine AH.le_put ?_ (by first | assumption | exact (AH.blk_put_ne _ _ (by assumption)).trans (by assumption) | exact AH.none_put (by assumption) | exact AH.none_put (AH.none_put (by assumption)) | (simp only [AH.blk_setTok, AH.tok_put] at *; first | assumption | exact AH.none_put (by assumption)))) | (refine AH.le_setTok ?_ (by first | assumption | exact (AH.blk_put_ne _ _ (by assumption)).trans (by assumption) | exact AH.none_put (by assumption) | exact AH.none_put (AH.none_put (by assumption)) | (simp only [AH.blk_setTok, AH.tok_put] at *; first | assumption | exact AH.none_put (by assumption)))) | (refine AH.le_putM ?_ (by first | assumption | exact (AH.mp_putM_ne _ _ (by assumption)).trans (by assumption) | (simp only [AH.mp_put, AH.mp_setTok] at *; assumption)))))⟩
  have h3 : i = c.ho.length := by omega
  subst h3
  simp only [F_law_DatingMoves, g_law_DatingMoves, go_sem, reduceIte, Nat.reduceEqDiff, Nat.reduceAdd, Nat.reduceMul, Nat.reduceSub, reduceCtorEq, Nat.reduceLeDiff, Nat.reduceLT, Int.reduceLT, Int.reduceLE, Int.reduceToNat, Int.reduceAdd, Int.reduceSub, Int.reduceNeg, Int.reduceMul, Int.reduceEq, ← Bool.decide_and, ← Bool.decide_or, ↓tq_n, ↓tq_e, ↓tq_r, ↓bq_n, ↓bq_e, ↓bq_r, ↓rq_n, ↓rq_r, ↓rq_e]
  exact ret_ok rfl
end Go.Proofs.Ytcicklmlbdfneaa
