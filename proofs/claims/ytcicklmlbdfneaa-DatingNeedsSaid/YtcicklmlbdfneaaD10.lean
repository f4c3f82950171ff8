/- Calls of functions of this seat's program: the years in datings. No condition. -/
import Derived.Test.YtcicklmlbdfneaaD9
namespace Go.Proofs.Ytcicklmlbdfneaa
open Go Go.Abs
set_option linter.unusedSimpArgs false
set_option linter.unusedVariables false
set_option maxRecDepth 20000

/-- The years of a variable. -/
def zv (c : Cr) (i : Nat) : Int × Int := (-Mf c (1 + i) 0, Mf c 0 (1 + i))
def zA (c : Cr) (k : Nat) : List (Int × Int) := (List.range k).map (zv c)
def zT (c : Cr) : List (Int × Int) := zA c c.ty.length
def zH (c : Cr) : List (Int × Int) := (List.range c.ho.length).map fun i => zv c (c.ty.length + i)
theorem zA_len (c : Cr) (k : Nat) : (zA c k).length = k := by simp [zA]
theorem zT_len (c : Cr) : (zT c).length = c.ty.length := zA_len c _
theorem zH_len (c : Cr) : (zH c).length = c.ho.length := by simp [zH]
theorem zA_add (c : Cr) (k : Nat) : zA c (k + 1) = zA c k ++ [zv c k] := by simp [zA, List.range_succ]
theorem zA_take (c : Cr) (n m : Nat) (h : n ≤ m) : (zA c m).take n = zA c n := by
  unfold zA
  rw [← List.map_take, List.take_range, Nat.min_eq_left h]
theorem zA_drop (c : Cr) : (zA c (c.ty.length + c.ho.length)).drop c.ty.length = zH c := by
  apply List.ext_getElem
  · rw [List.length_drop, zA_len, zH_len]; omega
  · intro q h1 h2
    simp [zA, zH]
theorem zv_rng {c : Cr} (hv : VC c) (ho : Ok c) {i : Nat} (hi : 1 + i < nV c) : (-9999 ≤ (zv c i).1 ∧ (zv c i).1 ≤ 9999) ∧ (-9999 ≤ (zv c i).2 ∧ (zv c i).2 ≤ 9999) := by
  obtain ⟨h1, h2⟩ := ends_dt hv ho
  unfold nV at hi
  by_cases hT : i < c.ty.length
  · have a1 := h1.2.2.2.1 i hT
    have a2 := h2.2.2.2.1 i hT
    unfold loT at a1
    unfold hiT at a2
    rw [getD_rmap _ hT] at a1 a2
    have a3 := hv.2.1 i hT
    unfold Yv at a3
    unfold zv
    simp only
    omega
  · obtain ⟨j, rfl⟩ : ∃ j, i = c.ty.length + j := ⟨i - c.ty.length, by omega⟩
    have hj : j < c.ho.length := by omega
    have a1 := (h1.2.2.2.2.1 j hj).1
    have a2 := (h2.2.2.2.2.1 j hj).1
    unfold loH at a1
    unfold hiH at a2
    rw [getD_rmap _ hj] at a1 a2
    have a3 := (hv.2.2.1 j hj).1.2.2.2
    unfold Yv at a3
    unfold zv
    simp only [← Nat.add_assoc]
    omega

theorem r_slices_Clone_Years (nl : Bool) (e : List (Int × Int)) (tl : Tail) (hn : nl = true → e = []) (hl1 : e.length ≤ 1000) (h : AH) : RCall Try.prog n_slices_Clone_Years [.sl nl e.length (prs e) tl] h (.sl nl e.length (prs e) .unk) := by
  refine RCall.of hm cF_slices_Clone_Years (by simp [g_slices_Clone_Years]) fun hw h' hl => ?_
  cases nl with
  | true =>
    rw [hn rfl]
    simp only [F_slices_Clone_Years, g_slices_Clone_Years, go_sem, reduceIte, Nat.reduceEqDiff, Nat.reduceAdd, Nat.reduceMul, Nat.reduceSub, reduceCtorEq, Nat.reduceLeDiff, Nat.reduceLT, Int.reduceLT, Int.reduceLE, Int.reduceToNat, Int.reduceAdd, Int.reduceSub, Int.reduceNeg, Int.reduceMul, Int.reduceEq, ← Bool.decide_and, ← Bool.decide_or, ↓tq_n, ↓tq_e, ↓tq_r, ↓bq_n, ↓bq_e, ↓bq_r, ↓rq_n, ↓rq_r, ↓rq_e]
    exact ⟨_, h', .forget AV.le.unk (.refl _), rfl, rfl⟩
  | false =>
    simp only [F_slices_Clone_Years, g_slices_Clone_Years, go_sem, reduceIte, Nat.reduceEqDiff, Nat.reduceAdd, Nat.reduceMul, Nat.reduceSub, reduceCtorEq, Nat.reduceLeDiff, Nat.reduceLT, Int.reduceLT, Int.reduceLE, Int.reduceToNat, Int.reduceAdd, Int.reduceSub, Int.reduceNeg, Int.reduceMul, Int.reduceEq, ← Bool.decide_and, ← Bool.decide_or, ↓tq_n, ↓tq_e, ↓tq_r, ↓bq_n, ↓bq_e, ↓bq_r, ↓rq_n, ↓rq_r, ↓rq_e]
    refine ⟨prs_len _, by omega, by omega, TokG.mk fun t ht => ?_⟩
    simp only [F_slices_Clone_Years, g_slices_Clone_Years, go_sem, reduceIte, Nat.reduceEqDiff, Nat.reduceAdd, Nat.reduceMul, Nat.reduceSub, reduceCtorEq, Nat.reduceLeDiff, Nat.reduceLT, Int.reduceLT, Int.reduceLE, Int.reduceToNat, Int.reduceAdd, Int.reduceSub, Int.reduceNeg, Int.reduceMul, Int.reduceEq, ← Bool.decide_and, ← Bool.decide_or, ↓tq_n, ↓tq_e, ↓tq_r, ↓bq_n, ↓bq_e, ↓bq_r, ↓rq_n, ↓rq_r, ↓rq_e]
    simp only [Bool.false_and]
    exact ret_unk (by repeat' first | exact AH.le.refl _ | assumption | (refine AH.le_put ?_ (by first | assumption | exact (AH.blk_put_ne _ _ (by assumption)).trans (by assumption) | exact AH.none_put (by assumption) | exact AH.none_put (AH.none_put (by assumption)) | (simp only [AH.blk_setTok, AH.tok_put] at *; first | assumption | exact AH.none_put (by assumption)))) | (refine AH.le_setTok ?_ (by first | assumption | exact (AH.blk_put_ne _ _ (by assumption)).trans (by assumption) | exact AH.none_put (by assumption) | exact AH.none_put (AH.none_put (by assumption)) | (simp only [AH.blk_setTok, AH.tok_put] at *; first | assumption | exact AH.none_put (by assumption)))) | (refine AH.le_putM ?_ (by first | assumption | exact (AH.mp_putM_ne _ _ (by assumption)).trans (by assumption) | (simp only [AH.mp_put, AH.mp_setTok] at *; assumption))))

/-- The answers of Dates. -/
def datesV (c : Cr) : AV := if VC c then (if Ok c then .tup [.sl (decide (c.ty.length + c.ho.length = 0)) c.ty.length (prs (zT c)) .unk, .sl (decide (c.ty.length + c.ho.length = 0)) c.ho.length (prs (zH c)) .unk, I 0]
    else .tup [.sl true 0 [] .full, .sl true 0 [] .full, I 10]) else .tup [.sl true 0 [] .full, .sl true 0 [] .full, I 1]

theorem r_dating_Dates (c : Cr) (h : AH) : RCall Try.prog n_dating_Dates [.st c.cs] h (datesV c) := by
  refine RCall.of hm cF_dating_Dates (by simp [g_dating_Dates]) fun hw h' hl => ?_
  unfold datesV
  obtain ⟨hxT, hxH, hxG⟩ := cr_lens (n := 1) (hw _ (.head _))
  simp only [Cr.cs, F_dating_Dates, g_dating_Dates, go_sem, reduceIte, Nat.reduceEqDiff, Nat.reduceAdd, Nat.reduceMul, Nat.reduceSub, reduceCtorEq, Nat.reduceLeDiff, Nat.reduceLT, Int.reduceLT, Int.reduceLE, Int.reduceToNat, Int.reduceAdd, Int.reduceSub, Int.reduceNeg, Int.reduceMul, Int.reduceEq, ← Bool.decide_and, ← Bool.decide_or, ↓tq_n, ↓tq_e, ↓tq_r, ↓bq_n, ↓bq_e, ↓bq_r, ↓rq_n, ↓rq_r, ↓rq_e]
  refine AllocG.mk fun b1 hb1 => ?_
  simp only [F_dating_Dates, g_dating_Dates, go_sem, reduceIte, Nat.reduceEqDiff, Nat.reduceAdd, Nat.reduceMul, Nat.reduceSub, reduceCtorEq, Nat.reduceLeDiff, Nat.reduceLT, Int.reduceLT, Int.reduceLE, Int.reduceToNat, Int.reduceAdd, Int.reduceSub, Int.reduceNeg, Int.reduceMul, Int.reduceEq, ← Bool.decide_and, ← Bool.decide_or, ↓tq_n, ↓tq_e, ↓tq_r, ↓bq_n, ↓bq_e, ↓bq_r, ↓rq_n, ↓rq_r, ↓rq_e]
  refine CallG.mk (r_dating_Valid c _) ?_
  simp only [F_dating_Dates, g_dating_Dates, go_sem, reduceIte, Nat.reduceEqDiff, Nat.reduceAdd, Nat.reduceMul, Nat.reduceSub, reduceCtorEq, Nat.reduceLeDiff, Nat.reduceLT, Int.reduceLT, Int.reduceLE, Int.reduceToNat, Int.reduceAdd, Int.reduceSub, Int.reduceNeg, Int.reduceMul, Int.reduceEq, ← Bool.decide_and, ← Bool.decide_or, ↓tq_n, ↓tq_e, ↓tq_r, ↓bq_n, ↓bq_e, ↓bq_r, ↓rq_n, ↓rq_r, ↓rq_e]
  refine ⟨fun h1 => ?_, fun h1 => ?_⟩
  · refine ret_hb (by repeat' first | exact AH.le.refl _ | assumption | (refine AH.le_put ?_ (by first | assumption | exact (AH.blk_put_ne _ _ (by assumption)).trans (by assumption) | exact AH.none_put (by assumption) | exact AH.none_put (AH.none_put (by assumption)) | (simp only [AH.blk_setTok, AH.tok_put] at *; first | assumption | exact AH.none_put (by assumption)))) | (refine AH.le_setTok ?_ (by first | assumption | exact (AH.blk_put_ne _ _ (by assumption)).trans (by assumption) | exact AH.none_put (by assumption) | exact AH.none_put (AH.none_put (by assumption)) | (simp only [AH.blk_setTok, AH.tok_put] at *; first | assumption | exact AH.none_put (by assumption)))) | (refine AH.le_putM ?_ (by first | assumption | exact (AH.mp_putM_ne _ _ (by assumption)).trans (by assumption) | (simp only [AH.mp_put, AH.mp_setTok] at *; assumption)))) ?_
    rw [if_neg h1]
  rw [if_pos h1]
  refine CallG.mk (r_dating_solve c h1 _) ?_
  by_cases hok : Ok c
  case neg =>
    simp only [hok, if_false, decide_false]
    simp only [F_dating_Dates, g_dating_Dates, go_sem, reduceIte, Nat.reduceEqDiff, Nat.reduceAdd, Nat.reduceMul, Nat.reduceSub, reduceCtorEq, Nat.reduceLeDiff, Nat.reduceLT, Int.reduceLT, Int.reduceLE, Int.reduceToNat, Int.reduceAdd, Int.reduceSub, Int.reduceNeg, Int.reduceMul, Int.reduceEq, ← Bool.decide_and, ← Bool.decide_or, ↓tq_n, ↓tq_e, ↓tq_r, ↓bq_n, ↓bq_e, ↓bq_r, ↓rq_n, ↓rq_r, ↓rq_e]
    refine ret_hb (by repeat' first | exact AH.le.refl _ | assumption | (refine AH.le_put ?_ (by first | assumption | exact (AH.blk_put_ne _ _ (by assumption)).trans (by assumption) | exact AH.none_put (by assumption) | exact AH.none_put (AH.none_put (by assumption)) | (simp only [AH.blk_setTok, AH.tok_put] at *; first | assumption | exact AH.none_put (by assumption)))) | (refine AH.le_setTok ?_ (by first | assumption | exact (AH.blk_put_ne _ _ (by assumption)).trans (by assumption) | exact AH.none_put (by assumption) | exact AH.none_put (AH.none_put (by assumption)) | (simp only [AH.blk_setTok, AH.tok_put] at *; first | assumption | exact AH.none_put (by assumption)))) | (refine AH.le_putM ?_ (by first | assumption | exact (AH.mp_putM_ne _ _ (by assumption)).trans (by assumption) | (simp only [AH.mp_put, AH.mp_setTok] at *; assumption)))) ?_
    rw [if_neg hok]
  simp only [hok, if_true, decide_true, matV]
  simp only [F_dating_Dates, g_dating_Dates, go_sem, reduceIte, Nat.reduceEqDiff, Nat.reduceAdd, Nat.reduceMul, Nat.reduceSub, reduceCtorEq, Nat.reduceLeDiff, Nat.reduceLT, Int.reduceLT, Int.reduceLE, Int.reduceToNat, Int.reduceAdd, Int.reduceSub, Int.reduceNeg, Int.reduceMul, Int.reduceEq, ← Bool.decide_and, ← Bool.decide_or, ↓tq_n, ↓tq_e, ↓tq_r, ↓bq_n, ↓bq_e, ↓bq_r, ↓rq_n, ↓rq_r, ↓rq_e]
  generalize hH : h'.put b1 [AV.sl c.nlT c.ty.length (prs c.ty) c.tlT, AV.sl c.nlH c.ho.length (hds c.ho) c.tlH, AV.sl c.nlG c.ga.length (trs c.ga) c.tlG] = H
  have Hb : H.blk b1 = some [AV.sl c.nlT c.ty.length (prs c.ty) c.tlT, AV.sl c.nlH c.ho.length (hds c.ho) c.tlH, AV.sl c.nlG c.ga.length (trs c.ga) c.tlG] := by rw [← hH, AH.blk_put]
  have Hle : h'.le H := by rw [← hH]; exact (by repeat' first | exact AH.le.refl _ | assumption | (refine AH.le_put ?_ (by first | assumption | exact (AH.blk_put_ne _ _ (by assumption)).trans (by assumption) | exact AH.none_put (by assumption) | exact AH.none_put (AH.none_put (by assumption)) | (simp only [AH.blk_setTok, AH.tok_put] at *; first | assumption | exact AH.none_put (by assumption)))) | (refine AH.le_setTok ?_ (by first | assumption | exact (AH.blk_put_ne _ _ (by assumption)).trans (by assumption) | exact AH.none_put (by assumption) | exact AH.none_put (AH.none_put (by assumption)) | (simp only [AH.blk_setTok, AH.tok_put] at *; first | assumption | exact AH.none_put (by assumption)))) | (refine AH.le_putM ?_ (by first | assumption | exact (AH.mp_putM_ne _ _ (by assumption)).trans (by assumption) | (simp only [AH.mp_put, AH.mp_setTok] at *; assumption))))
  clear hH
  have hn15 := vc_nV h1
  generalize hn : nV c = n at *
  have hnT : n = 1 + (c.ty.length + c.ho.length) := by rw [← hn]; unfold nV; omega
  have hcell : ∀ a, a < n → ((List.range n).map fun i => AV.sl false n (i64s (rowL n (Mf c) i)) .unk).drop a = AV.sl false n (i64s (rowL n (Mf c) a)) .unk :: ((List.range n).map fun i => AV.sl false n (i64s (rowL n (Mf c) i)) .unk).drop (a + 1) := fun a ha => drop_of_get (by simp [ha])
  generalize ((List.range n).map fun i => AV.sl false n (i64s (rowL n (Mf c) i)) .unk) = ML at *
  obtain ⟨rest, hML⟩ : ∃ rest, ML = AV.sl false n (i64s (rowL n (Mf c) 0)) .unk :: rest := ⟨ML.drop 1, by have := hcell 0 (by omega); rwa [List.drop_zero] at this⟩
  subst hML
  refine awp_tok 7 2 (nl := true) (n := 0) (cs := []) rfl fun t ht => ?_
  refine awp_loop (fun i : Nat => [(1, .ptr b1 0), (5, .sl false n (AV.sl false n (i64s (rowL n (Mf c) 0)) .unk :: rest) .unk), (7, gsl (zA c i) (.tok t)), (8, I ((1 + i : Nat) : Int))]) (fun i => H.setTok t (zA c i).length 2) (fun i => 1 + i ≤ n) (fun i => n - i) 0 (by omega) (GStep.forget (by repeat' first | exact EnvLe.nil _ | refine EnvLe.cons (AV.le.of_eq rfl) ?_ | refine EnvLe.cons (AV.le.undef _) ?_ | refine EnvLe.cons AV.le.unk ?_) (by repeat' first | exact AH.le.refl _ | assumption | (refine AH.le_put ?_ (by first | assumption | exact (AH.blk_put_ne _ _ (by assumption)).trans (by assumption) | exact AH.none_put (by assumption) | exact AH.none_put (AH.none_put (by assumption)) | (simp only [AH.blk_setTok, AH.tok_put] at *; first | assumption | exact AH.none_put (by assumption)))) | (refine AH.le_setTok ?_ (by first | assumption | exact (AH.blk_put_ne _ _ (by assumption)).trans (by assumption) | exact AH.none_put (by assumption) | exact AH.none_put (AH.none_put (by assumption)) | (simp only [AH.blk_setTok, AH.tok_put] at *; first | assumption | exact AH.none_put (by assumption)))) | (refine AH.le_putM ?_ (by first | assumption | exact (AH.mp_putM_ne _ _ (by assumption)).trans (by assumption) | (simp only [AH.mp_put, AH.mp_setTok] at *; assumption))))) fun i h2 => .of_vg hm ?_
  by_cases h3 : 1 + i < n
  · have hc3 : ((1 + i : Nat) : Int) < (n : Int) := by omega
    have hz := zv_rng h1 hok (i := i) (by rw [hn]; exact h3)
    unfold zv at hz
    simp only at hz
    have i1 : InR .i64 (-Mf c (1 + i) 0) := by rw [inR64]; omega
    obtain ⟨r2, d1⟩ : ∃ r2, i64s (rowL n (Mf c) (1 + i)) = I (Mf c (1 + i) 0) :: r2 := ⟨(i64s (rowL n (Mf c) (1 + i))).drop 1, by have := MInv.rowd (n := n) (Mf c) (1 + i) (j := 0) (by omega); rwa [List.drop_zero] at this⟩
    have d2 := MInv.rowd (n := n) (Mf c) 0 h3
    have d4 := hcell (1 + i) h3
    rw [d1] at d4
    have c0 : (0 : Int) < (n : Int) := by omega
    simp only [hc3, d2, d4, c0, i1, gsl, F_dating_Dates, g_dating_Dates, go_sem, reduceIte, Nat.reduceEqDiff, Nat.reduceAdd, Nat.reduceMul, Nat.reduceSub, reduceCtorEq, Nat.reduceLeDiff, Nat.reduceLT, Int.reduceLT, Int.reduceLE, Int.reduceToNat, Int.reduceAdd, Int.reduceSub, Int.reduceNeg, Int.reduceMul, Int.reduceEq, ← Bool.decide_and, ← Bool.decide_or, ↓tq_n, ↓tq_e, ↓tq_r, ↓bq_n, ↓bq_e, ↓bq_r, ↓rq_n, ↓rq_r, ↓rq_e]
    refine ⟨prs_len _, by rw [zA_len]; omega, by rw [zA_len]; omega, by rw [inR64]; omega, i + 1, by omega, by omega, ?_⟩
    rw [zA_add]
    have e1 : ((1 + (i + 1) : Nat) : Int) = ((1 + i : Nat) : Int) + 1 := by omega
    rw [e1]
    simp only [gsl, List.length_append, List.length_cons, List.length_nil, prs_append, prs_one, Nat.zero_add, Nat.succ_ne_zero, decide_false, Bool.and_false]
    exact (GStep.forget (by repeat' first | exact EnvLe.nil _ | refine EnvLe.cons (AV.le.of_eq rfl) ?_ | refine EnvLe.cons (AV.le.undef _) ?_ | refine EnvLe.cons AV.le.unk ?_) (by repeat' first | exact AH.le.refl _ | assumption | (refine AH.le_put ?_ (by first | assumption | exact (AH.blk_put_ne _ _ (by assumption)).trans (by assumption) | exact AH.none_put (by assumption) | exact AH.none_put (AH.none_put (by assumption)) | (simp only [AH.blk_setTok, AH.tok_put] at *; first | assumption | exact AH.none_put (by assumption)))) | (refine AH.le_setTok ?_ (by first | assumption | exact (AH.blk_put_ne _ _ (by assumption)).trans (by assumption) | exact AH.none_put (by assumption) | exact AH.none_put (AH.none_put (by assumption)) | (simp only [AH.blk_setTok, AH.tok_put] at *; first | assumption | exact AH.none_put (by assumption)))) | (refine AH.le_putM ?_ (by first | assumption | exact (AH.mp_putM_ne _ _ (by assumption)).trans (by assumption) | (simp only [AH.mp_put, AH.mp_setTok] at *; assumption)))))
  have h3 : 1 + i = n := by omega
  have h4 : i = c.ty.length + c.ho.length := by omega
  subst h4
  have hc0 : ¬ ((1 + (c.ty.length + c.ho.length) : Nat) : Int) < (n : Int) := by omega
  have hc1 : (c.ty.length : Int) ≤ ((c.ty.length + c.ho.length : Nat) : Int) := by omega
  have k1 : ∀ H, RCall Try.prog n_slices_Clone_Years [.sl (decide (c.ty.length + c.ho.length = 0)) c.ty.length (prs (zT c)) .unk] H (.sl (decide (c.ty.length + c.ho.length = 0)) c.ty.length (prs (zT c)) .unk) := fun H => by
    have := r_slices_Clone_Years (decide (c.ty.length + c.ho.length = 0)) (zT c) .unk (fun hh => List.eq_nil_of_length_eq_zero (by rw [zT_len]; have := of_decide_eq_true hh; omega)) (by rw [zT_len]; omega) H
    rwa [zT_len] at this
  have k2 : ∀ H, RCall Try.prog n_slices_Clone_Years [.sl (decide (c.ty.length + c.ho.length = 0)) c.ho.length (prs (zH c)) .unk] H (.sl (decide (c.ty.length + c.ho.length = 0)) c.ho.length (prs (zH c)) .unk) := fun H => by
    have := r_slices_Clone_Years (decide (c.ty.length + c.ho.length = 0)) (zH c) .unk (fun hh => List.eq_nil_of_length_eq_zero (by rw [zH_len]; have := of_decide_eq_true hh; omega)) (by rw [zH_len]; omega) H
    rwa [zH_len] at this
  simp only [hc0, Hb, gsl, zA_len, hc1, F_dating_Dates, g_dating_Dates, go_sem, reduceIte, Nat.reduceEqDiff, Nat.reduceAdd, Nat.reduceMul, Nat.reduceSub, reduceCtorEq, Nat.reduceLeDiff, Nat.reduceLT, Int.reduceLT, Int.reduceLE, Int.reduceToNat, Int.reduceAdd, Int.reduceSub, Int.reduceNeg, Int.reduceMul, Int.reduceEq, ← Bool.decide_and, ← Bool.decide_or, ↓tq_n, ↓tq_e, ↓tq_r, ↓bq_n, ↓bq_e, ↓bq_r, ↓rq_n, ↓rq_r, ↓rq_e]
  refine ⟨by omega, by omega, ?_⟩
  rw [Nat.sub_zero, prs_take, zA_take _ _ _ (by omega)]
  refine CallG.mk (k1 _) ?_
  simp only [zA_len, hc1, F_dating_Dates, g_dating_Dates, go_sem, reduceIte, Nat.reduceEqDiff, Nat.reduceAdd, Nat.reduceMul, Nat.reduceSub, reduceCtorEq, Nat.reduceLeDiff, Nat.reduceLT, Int.reduceLT, Int.reduceLE, Int.reduceToNat, Int.reduceAdd, Int.reduceSub, Int.reduceNeg, Int.reduceMul, Int.reduceEq, ← Bool.decide_and, ← Bool.decide_or, ↓tq_n, ↓tq_e, ↓tq_r, ↓bq_n, ↓bq_e, ↓bq_r, ↓rq_n, ↓rq_r, ↓rq_e]
  refine ⟨by omega, ?_⟩
  rw [Nat.add_sub_cancel_left, prs_dropn, zA_drop, List.take_of_length_le (by rw [prs_len, zH_len]; omega)]
  refine CallG.mk (k2 _) ?_
  simp only [F_dating_Dates, g_dating_Dates, go_sem, reduceIte, Nat.reduceEqDiff, Nat.reduceAdd, Nat.reduceMul, Nat.reduceSub, reduceCtorEq, Nat.reduceLeDiff, Nat.reduceLT, Int.reduceLT, Int.reduceLE, Int.reduceToNat, Int.reduceAdd, Int.reduceSub, Int.reduceNeg, Int.reduceMul, Int.reduceEq, ← Bool.decide_and, ← Bool.decide_or, ↓tq_n, ↓tq_e, ↓tq_r, ↓bq_n, ↓bq_e, ↓bq_r, ↓rq_n, ↓rq_r, ↓rq_e]
  refine ret_hb (AH.le.trans Hle (by repeat' first | exact AH.le.refl _ | assumption | (refine AH.le_put ?_ (by first | assumption | exact (AH.blk_put_ne _ _ (by assumption)).trans (by assumption) | exact AH.none_put (by assumption) | exact AH.none_put (AH.none_put (by assumption)) | (simp only [AH.blk_setTok, AH.tok_put] at *; first | assumption | exact AH.none_put (by assumption)))) | (refine AH.le_setTok ?_ (by first | assumption | exact (AH.blk_put_ne _ _ (by assumption)).trans (by assumption) | exact AH.none_put (by assumption) | exact AH.none_put (AH.none_put (by assumption)) | (simp only [AH.blk_setTok, AH.tok_put] at *; first | assumption | exact AH.none_put (by assumption)))) | (refine AH.le_putM ?_ (by first | assumption | exact (AH.mp_putM_ne _ _ (by assumption)).trans (by assumption) | (simp only [AH.mp_put, AH.mp_setTok] at *; assumption))))) ?_
  rw [if_pos hok]
end Go.Proofs.Ytcicklmlbdfneaa
