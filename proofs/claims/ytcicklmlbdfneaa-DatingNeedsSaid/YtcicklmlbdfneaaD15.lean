/- Calls of functions of this seat's program: the ends of datings. No condition. -/
import Derived.Test.YtcicklmlbdfneaaD14
import Derived.Test.YtcicklmlbdfneaaD10
import Derived.Test.YtcicklmlbdfneaaC3
import Derived.Test.YtcicklmlbdfneaaC4
namespace Go.Proofs.Ytcicklmlbdfneaa
open Go Go.Abs
set_option linter.unusedSimpArgs false
set_option linter.unusedVariables false
set_option maxRecDepth 20000

theorem asl_gl (l : List Int) {n : Nat} (hn : n = l.length) : asl l = gl (i64s l) n .unk := by
  subst hn
  cases l <;> rfl
theorem take_getD {α : Type} (d : α) {l : List α} {i : Nat} (h : i < l.length) : l.take (i + 1) = l.take i ++ [l.getD i d] := by
  rw [List.take_add_one]
  simp [h]
theorem take_map_succ {α β : Type} (f : α → β) (d : α) {l : List α} {i : Nat} (h : i < l.length) : (l.take (i + 1)).map f = (l.take i).map f ++ [f (l.getD i d)] := by
  rw [take_getD d h, List.map_append]
  rfl

theorem AH.le_setTok2 {h h' : AH} {t n size : Nat} (hl : h.le h') : (h.setTok t n size).le (h'.setTok t n size) :=
  ⟨hl.blk, fun x m e => by
    simp only [AH.setTok] at e ⊢
    split at e
    · rename_i hx; rw [if_pos hx]; exact e
    · rename_i hx; rw [if_neg hx]; exact hl.tok x m e, hl.mp⟩

def pickE (last : Bool) (p : Int × Int) : Int := if last then p.2 else p.1
theorem r_dating_ends_1 (last : Bool) (nl : Bool) (e : List (Int × Int)) (tl : Tail) (hl1 : e.length ≤ 1000) (h : AH) :
    RCall Try.prog n_dating_ends_1 [.sl nl e.length (prs e) tl, .sptr [.bool last]] h (asl (e.map (pickE last))) := by
  refine RCall.of hm cF_dating_ends_1 (by simp [g_dating_ends_1]) fun hw h' hl => ?_
  simp only [F_dating_ends_1, g_dating_ends_1, go_sem, reduceIte, Nat.reduceEqDiff, Nat.reduceAdd, Nat.reduceMul, Nat.reduceSub, reduceCtorEq, Nat.reduceLeDiff, Nat.reduceLT, Int.reduceLT, Int.reduceLE, Int.reduceToNat, Int.reduceAdd, Int.reduceSub, Int.reduceNeg, Int.reduceMul, Int.reduceEq, ← Bool.decide_and, ← Bool.decide_or, ↓tq_n, ↓tq_e, ↓tq_r, ↓bq_n, ↓bq_e, ↓bq_r, ↓rq_n, ↓rq_r, ↓rq_e]
  refine awp_tok 4 1 (nl := true) (n := 0) (cs := []) rfl fun t ht => ?_
  refine awp_loop (fun i : Nat => [(1, .sptr [.bool last]), (4, gl (i64s ((e.take i).map (pickE last))) i (.tok t)), (7, .sl nl e.length (prs e) tl), (8, I e.length), (9, I i)]) (fun i => h'.setTok t i 1) (fun i => i ≤ e.length) (fun i => e.length - i) 0 (Nat.zero_le _) (GStep.forget (by repeat' first | exact EnvLe.nil _ | refine EnvLe.cons (AV.le.of_eq rfl) ?_ | refine EnvLe.cons (AV.le.undef _) ?_ | refine EnvLe.cons AV.le.unk ?_) (by repeat' first | exact AH.le.refl _ | assumption | (refine AH.le_put ?_ (by first | assumption | exact (AH.blk_put_ne _ _ (by assumption)).trans (by assumption) | exact AH.none_put (by assumption) | exact AH.none_put (AH.none_put (by assumption)) | (simp only [AH.blk_setTok, AH.tok_put] at *; first | assumption | exact AH.none_put (by assumption)))) | (refine AH.le_setTok ?_ (by first | assumption | exact (AH.blk_put_ne _ _ (by assumption)).trans (by assumption) | exact AH.none_put (by assumption) | exact AH.none_put (AH.none_put (by assumption)) | (simp only [AH.blk_setTok, AH.tok_put] at *; first | assumption | exact AH.none_put (by assumption)))) | (refine AH.le_putM ?_ (by first | assumption | exact (AH.mp_putM_ne _ _ (by assumption)).trans (by assumption) | (simp only [AH.mp_put, AH.mp_setTok] at *; assumption))))) fun i hi => .of_vg hm ?_
  have hlen : ((e.take i).map (pickE last)).length = i := by simp; omega
  by_cases h3 : i < e.length
  · have hc3 : (i : Int) < (e.length : Int) := by omega
    have e1 := take_map_succ (pickE last) (0, 0) h3
    simp only [hc3, prs_drop h3, F_dating_ends_1, g_dating_ends_1, go_sem, reduceIte, Nat.reduceEqDiff, Nat.reduceAdd, Nat.reduceMul, Nat.reduceSub, reduceCtorEq, Nat.reduceLeDiff, Nat.reduceLT, Int.reduceLT, Int.reduceLE, Int.reduceToNat, Int.reduceAdd, Int.reduceSub, Int.reduceNeg, Int.reduceMul, Int.reduceEq, ← Bool.decide_and, ← Bool.decide_or, ↓tq_n, ↓tq_e, ↓tq_r, ↓bq_n, ↓bq_e, ↓bq_r, ↓rq_n, ↓rq_r, ↓rq_e]
    cases last
    all_goals
      simp only [F_dating_ends_1, g_dating_ends_1, go_sem, reduceIte, Nat.reduceEqDiff, Nat.reduceAdd, Nat.reduceMul, Nat.reduceSub, reduceCtorEq, Nat.reduceLeDiff, Nat.reduceLT, Int.reduceLT, Int.reduceLE, Int.reduceToNat, Int.reduceAdd, Int.reduceSub, Int.reduceNeg, Int.reduceMul, Int.reduceEq, ← Bool.decide_and, ← Bool.decide_or, ↓tq_n, ↓tq_e, ↓tq_r, ↓bq_n, ↓bq_e, ↓bq_r, ↓rq_n, ↓rq_r, ↓rq_e]
      refine ⟨by rw [i64s_len, hlen], by omega, by omega, by rw [inR64]; omega, i + 1, by omega, by omega, ?_⟩
      rw [e1, i64s_append]
      exact (GStep.forget (by repeat' first | exact EnvLe.nil _ | refine EnvLe.cons (AV.le.of_eq rfl) ?_ | refine EnvLe.cons (AV.le.undef _) ?_ | refine EnvLe.cons AV.le.unk ?_) (by repeat' first | exact AH.le.refl _ | assumption | (refine AH.le_put ?_ (by first | assumption | exact (AH.blk_put_ne _ _ (by assumption)).trans (by assumption) | exact AH.none_put (by assumption) | exact AH.none_put (AH.none_put (by assumption)) | (simp only [AH.blk_setTok, AH.tok_put] at *; first | assumption | exact AH.none_put (by assumption)))) | (refine AH.le_setTok ?_ (by first | assumption | exact (AH.blk_put_ne _ _ (by assumption)).trans (by assumption) | exact AH.none_put (by assumption) | exact AH.none_put (AH.none_put (by assumption)) | (simp only [AH.blk_setTok, AH.tok_put] at *; first | assumption | exact AH.none_put (by assumption)))) | (refine AH.le_putM ?_ (by first | assumption | exact (AH.mp_putM_ne _ _ (by assumption)).trans (by assumption) | (simp only [AH.mp_put, AH.mp_setTok] at *; assumption)))))
  · have h3 : i = e.length := by omega
    subst h3
    simp only [F_dating_ends_1, g_dating_ends_1, go_sem, reduceIte, Nat.reduceEqDiff, Nat.reduceAdd, Nat.reduceMul, Nat.reduceSub, reduceCtorEq, Nat.reduceLeDiff, Nat.reduceLT, Int.reduceLT, Int.reduceLE, Int.reduceToNat, Int.reduceAdd, Int.reduceSub, Int.reduceNeg, Int.reduceMul, Int.reduceEq, ← Bool.decide_and, ← Bool.decide_or, ↓tq_n, ↓tq_e, ↓tq_r, ↓bq_n, ↓bq_e, ↓bq_r, ↓rq_n, ↓rq_r, ↓rq_e]
    rw [asl_gl _ (n := e.length) (by simp), show e.take e.length = e from List.take_length]
    exact ret_gl (by repeat' first | exact AH.le.refl _ | assumption | (refine AH.le_put ?_ (by first | assumption | exact (AH.blk_put_ne _ _ (by assumption)).trans (by assumption) | exact AH.none_put (by assumption) | exact AH.none_put (AH.none_put (by assumption)) | (simp only [AH.blk_setTok, AH.tok_put] at *; first | assumption | exact AH.none_put (by assumption)))) | (refine AH.le_setTok ?_ (by first | assumption | exact (AH.blk_put_ne _ _ (by assumption)).trans (by assumption) | exact AH.none_put (by assumption) | exact AH.none_put (AH.none_put (by assumption)) | (simp only [AH.blk_setTok, AH.tok_put] at *; first | assumption | exact AH.none_put (by assumption)))) | (refine AH.le_putM ?_ (by first | assumption | exact (AH.mp_putM_ne _ _ (by assumption)).trans (by assumption) | (simp only [AH.mp_put, AH.mp_setTok] at *; assumption))))

/-- The answers of Some and Last. -/
def nilS : AV := .sl true 0 [] .full
def loc (c : Cr) (last : Bool) : List Int := if last then hiT c else loT c
def hoc (c : Cr) (last : Bool) : List Int := if last then hiH c else loH c
def endsV (c : Cr) (last : Bool) : AV := if VC c then (if Ok c then .tup [asl (loc c last), asl (hoc c last), I 0] else .tup [.sl true 0 [] .full, .sl true 0 [] .full, I 10]) else .tup [.sl true 0 [] .full, .sl true 0 [] .full, I 1]
theorem zT_pick (c : Cr) (last : Bool) : (zT c).map (pickE last) = loc c last := by
  unfold zT zA loc loT hiT
  cases last
  · simp only [List.map_map]; rfl
  · simp only [List.map_map]; rfl
theorem zH_pick (c : Cr) (last : Bool) : (zH c).map (pickE last) = hoc c last := by
  unfold zH hoc loH hiH
  cases last
  · simp only [List.map_map]
    refine List.map_congr_left fun i _ => ?_
    simp [pickE, zv, Nat.add_assoc]
  · simp only [List.map_map]
    refine List.map_congr_left fun i _ => ?_
    simp [pickE, zv, Nat.add_assoc]

theorem r_dating_ends (c : Cr) (last : Bool) (h : AH) : RCall Try.prog n_dating_ends [.st c.cs, .bool last] h (endsV c last) := by
  refine RCall.of hm cF_dating_ends (by simp [g_dating_ends]) fun hw h' hl => ?_
  simp only [Cr.cs, F_dating_ends, g_dating_ends, go_sem, reduceIte, Nat.reduceEqDiff, Nat.reduceAdd, Nat.reduceMul, Nat.reduceSub, reduceCtorEq, Nat.reduceLeDiff, Nat.reduceLT, Int.reduceLT, Int.reduceLE, Int.reduceToNat, Int.reduceAdd, Int.reduceSub, Int.reduceNeg, Int.reduceMul, Int.reduceEq, ← Bool.decide_and, ← Bool.decide_or, ↓tq_n, ↓tq_e, ↓tq_r, ↓bq_n, ↓bq_e, ↓bq_r, ↓rq_n, ↓rq_r, ↓rq_e]
  refine CallG.mk (r_dating_Dates c _) ?_
  unfold datesV endsV
  by_cases h1 : VC c
  case neg =>
    simp only [h1, if_false]
    simp only [F_dating_ends, g_dating_ends, go_sem, reduceIte, Nat.reduceEqDiff, Nat.reduceAdd, Nat.reduceMul, Nat.reduceSub, reduceCtorEq, Nat.reduceLeDiff, Nat.reduceLT, Int.reduceLT, Int.reduceLE, Int.reduceToNat, Int.reduceAdd, Int.reduceSub, Int.reduceNeg, Int.reduceMul, Int.reduceEq, ← Bool.decide_and, ← Bool.decide_or, ↓tq_n, ↓tq_e, ↓tq_r, ↓bq_n, ↓bq_e, ↓bq_r, ↓rq_n, ↓rq_r, ↓rq_e]
    exact ret_ok (by simp [h1, endsV, *])
  by_cases h2 : Ok c
  case neg =>
    simp only [h1, h2, if_false, if_true]
    simp only [F_dating_ends, g_dating_ends, go_sem, reduceIte, Nat.reduceEqDiff, Nat.reduceAdd, Nat.reduceMul, Nat.reduceSub, reduceCtorEq, Nat.reduceLeDiff, Nat.reduceLT, Int.reduceLT, Int.reduceLE, Int.reduceToNat, Int.reduceAdd, Int.reduceSub, Int.reduceNeg, Int.reduceMul, Int.reduceEq, ← Bool.decide_and, ← Bool.decide_or, ↓tq_n, ↓tq_e, ↓tq_r, ↓bq_n, ↓bq_e, ↓bq_r, ↓rq_n, ↓rq_r, ↓rq_e]
    exact ret_ok (by simp [h1, endsV, *])
  simp only [h1, h2, if_true]
  simp only [F_dating_ends, g_dating_ends, go_sem, reduceIte, Nat.reduceEqDiff, Nat.reduceAdd, Nat.reduceMul, Nat.reduceSub, reduceCtorEq, Nat.reduceLeDiff, Nat.reduceLT, Int.reduceLT, Int.reduceLE, Int.reduceToNat, Int.reduceAdd, Int.reduceSub, Int.reduceNeg, Int.reduceMul, Int.reduceEq, ← Bool.decide_and, ← Bool.decide_or, ↓tq_n, ↓tq_e, ↓tq_r, ↓bq_n, ↓bq_e, ↓bq_r, ↓rq_n, ↓rq_r, ↓rq_e]
  have b8 := h1.1
  refine CallG.mk (v := asl (loc c last)) (by rw [← zT_pick, ← zT_len c]; exact r_dating_ends_1 last _ (zT c) _ (by rw [zT_len]; omega) _) ?_
  simp only [F_dating_ends, g_dating_ends, go_sem, reduceIte, Nat.reduceEqDiff, Nat.reduceAdd, Nat.reduceMul, Nat.reduceSub, reduceCtorEq, Nat.reduceLeDiff, Nat.reduceLT, Int.reduceLT, Int.reduceLE, Int.reduceToNat, Int.reduceAdd, Int.reduceSub, Int.reduceNeg, Int.reduceMul, Int.reduceEq, ← Bool.decide_and, ← Bool.decide_or, ↓tq_n, ↓tq_e, ↓tq_r, ↓bq_n, ↓bq_e, ↓bq_r, ↓rq_n, ↓rq_r, ↓rq_e]
  refine CallG.mk (v := asl (hoc c last)) (by rw [← zH_pick, ← zH_len c]; exact r_dating_ends_1 last _ (zH c) _ (by rw [zH_len]; omega) _) ?_
  simp only [F_dating_ends, g_dating_ends, go_sem, reduceIte, Nat.reduceEqDiff, Nat.reduceAdd, Nat.reduceMul, Nat.reduceSub, reduceCtorEq, Nat.reduceLeDiff, Nat.reduceLT, Int.reduceLT, Int.reduceLE, Int.reduceToNat, Int.reduceAdd, Int.reduceSub, Int.reduceNeg, Int.reduceMul, Int.reduceEq, ← Bool.decide_and, ← Bool.decide_or, ↓tq_n, ↓tq_e, ↓tq_r, ↓bq_n, ↓bq_e, ↓bq_r, ↓rq_n, ↓rq_r, ↓rq_e]
  exact ret_ok (by simp [h1, endsV, *])
theorem r_dating_Some (c : Cr) (h : AH) : RCall Try.prog n_dating_Some [.st c.cs] h (endsV c false) := by
  refine RCall.of hm cF_dating_Some (by simp [g_dating_Some]) fun hw h' hl => ?_
  simp only [Cr.cs, F_dating_Some, g_dating_Some, go_sem, reduceIte, Nat.reduceEqDiff, Nat.reduceAdd, Nat.reduceMul, Nat.reduceSub, reduceCtorEq, Nat.reduceLeDiff, Nat.reduceLT, Int.reduceLT, Int.reduceLE, Int.reduceToNat, Int.reduceAdd, Int.reduceSub, Int.reduceNeg, Int.reduceMul, Int.reduceEq, ← Bool.decide_and, ← Bool.decide_or, ↓tq_n, ↓tq_e, ↓tq_r, ↓bq_n, ↓bq_e, ↓bq_r, ↓rq_n, ↓rq_r, ↓rq_e]
  refine CallG.mk (r_dating_ends c false _) ?_
  unfold endsV
  by_cases h1 : VC c
  · by_cases h2 : Ok c
    all_goals
      simp only [h1, h2, if_false, if_true]
      simp only [F_dating_Some, g_dating_Some, go_sem, reduceIte, Nat.reduceEqDiff, Nat.reduceAdd, Nat.reduceMul, Nat.reduceSub, reduceCtorEq, Nat.reduceLeDiff, Nat.reduceLT, Int.reduceLT, Int.reduceLE, Int.reduceToNat, Int.reduceAdd, Int.reduceSub, Int.reduceNeg, Int.reduceMul, Int.reduceEq, ← Bool.decide_and, ← Bool.decide_or, ↓tq_n, ↓tq_e, ↓tq_r, ↓bq_n, ↓bq_e, ↓bq_r, ↓rq_n, ↓rq_r, ↓rq_e]
      exact ret_ok (by simp [h1, endsV, *])
  · simp only [h1, if_false]
    simp only [F_dating_Some, g_dating_Some, go_sem, reduceIte, Nat.reduceEqDiff, Nat.reduceAdd, Nat.reduceMul, Nat.reduceSub, reduceCtorEq, Nat.reduceLeDiff, Nat.reduceLT, Int.reduceLT, Int.reduceLE, Int.reduceToNat, Int.reduceAdd, Int.reduceSub, Int.reduceNeg, Int.reduceMul, Int.reduceEq, ← Bool.decide_and, ← Bool.decide_or, ↓tq_n, ↓tq_e, ↓tq_r, ↓bq_n, ↓bq_e, ↓bq_r, ↓rq_n, ↓rq_r, ↓rq_e]
    exact ret_ok (by simp [h1, endsV, *])
theorem r_dating_Last (c : Cr) (h : AH) : RCall Try.prog n_dating_Last [.st c.cs] h (endsV c true) := by
  refine RCall.of hm cF_dating_Last (by simp [g_dating_Last]) fun hw h' hl => ?_
  simp only [Cr.cs, F_dating_Last, g_dating_Last, go_sem, reduceIte, Nat.reduceEqDiff, Nat.reduceAdd, Nat.reduceMul, Nat.reduceSub, reduceCtorEq, Nat.reduceLeDiff, Nat.reduceLT, Int.reduceLT, Int.reduceLE, Int.reduceToNat, Int.reduceAdd, Int.reduceSub, Int.reduceNeg, Int.reduceMul, Int.reduceEq, ← Bool.decide_and, ← Bool.decide_or, ↓tq_n, ↓tq_e, ↓tq_r, ↓bq_n, ↓bq_e, ↓bq_r, ↓rq_n, ↓rq_r, ↓rq_e]
  refine CallG.mk (r_dating_ends c true _) ?_
  unfold endsV
  by_cases h1 : VC c
  · by_cases h2 : Ok c
    all_goals
      simp only [h1, h2, if_false, if_true]
      simp only [F_dating_Last, g_dating_Last, go_sem, reduceIte, Nat.reduceEqDiff, Nat.reduceAdd, Nat.reduceMul, Nat.reduceSub, reduceCtorEq, Nat.reduceLeDiff, Nat.reduceLT, Int.reduceLT, Int.reduceLE, Int.reduceToNat, Int.reduceAdd, Int.reduceSub, Int.reduceNeg, Int.reduceMul, Int.reduceEq, ← Bool.decide_and, ← Bool.decide_or, ↓tq_n, ↓tq_e, ↓tq_r, ↓bq_n, ↓bq_e, ↓bq_r, ↓rq_n, ↓rq_r, ↓rq_e]
      exact ret_ok (by simp [h1, endsV, *])
  · simp only [h1, if_false]
    simp only [F_dating_Last, g_dating_Last, go_sem, reduceIte, Nat.reduceEqDiff, Nat.reduceAdd, Nat.reduceMul, Nat.reduceSub, reduceCtorEq, Nat.reduceLeDiff, Nat.reduceLT, Int.reduceLT, Int.reduceLE, Int.reduceToNat, Int.reduceAdd, Int.reduceSub, Int.reduceNeg, Int.reduceMul, Int.reduceEq, ← Bool.decide_and, ← Bool.decide_or, ↓tq_n, ↓tq_e, ↓tq_r, ↓bq_n, ↓bq_e, ↓bq_r, ↓rq_n, ↓rq_r, ↓rq_e]
    exact ret_ok (by simp [h1, endsV, *])
theorem ends_ref_Some (c : Cr) (h : AH) : RCall Try.prog n_ref_Some [.st c.cs] h (endsV c false) := r_ref_Some c h
theorem ends_ref_Last (c : Cr) (h : AH) : RCall Try.prog n_ref_Last [.st c.cs] h (endsV c true) := r_ref_Last c h

theorem hoc_len (c : Cr) (last : Bool) : (hoc c last).length = c.ho.length := by cases last <;> simp [hoc, loH, hiH]
theorem loc_len (c : Cr) (last : Bool) : (loc c last).length = c.ty.length := by cases last <;> simp [loc, loT, hiT]
/-- The answers of Terminus. -/
def termV (c : Cr) (k : Int) : AV := if VC c then (if 0 ≤ k ∧ k < c.ho.length then (if Ok c then .tup [I ((hoc c false).getD k.toNat 0), I 0] else .tup [I 0, I 10]) else .tup [I 0, I 7]) else .tup [I 0, I 1]

theorem r_dating_Terminus (c : Cr) (k : Int) (h : AH) : RCall Try.prog n_dating_Terminus [.st c.cs, I k] h (termV c k) := by
  refine RCall.of hm cF_dating_Terminus (by simp [g_dating_Terminus]) fun hw h' hl => ?_
  simp only [Cr.cs, F_dating_Terminus, g_dating_Terminus, go_sem, reduceIte, Nat.reduceEqDiff, Nat.reduceAdd, Nat.reduceMul, Nat.reduceSub, reduceCtorEq, Nat.reduceLeDiff, Nat.reduceLT, Int.reduceLT, Int.reduceLE, Int.reduceToNat, Int.reduceAdd, Int.reduceSub, Int.reduceNeg, Int.reduceMul, Int.reduceEq, ← Bool.decide_and, ← Bool.decide_or, ↓tq_n, ↓tq_e, ↓tq_r, ↓bq_n, ↓bq_e, ↓bq_r, ↓rq_n, ↓rq_r, ↓rq_e]
  refine CallG.mk (r_dating_Valid c _) ?_
  unfold termV
  simp only [F_dating_Terminus, g_dating_Terminus, go_sem, reduceIte, Nat.reduceEqDiff, Nat.reduceAdd, Nat.reduceMul, Nat.reduceSub, reduceCtorEq, Nat.reduceLeDiff, Nat.reduceLT, Int.reduceLT, Int.reduceLE, Int.reduceToNat, Int.reduceAdd, Int.reduceSub, Int.reduceNeg, Int.reduceMul, Int.reduceEq, ← Bool.decide_and, ← Bool.decide_or, ↓tq_n, ↓tq_e, ↓tq_r, ↓bq_n, ↓bq_e, ↓bq_r, ↓rq_n, ↓rq_r, ↓rq_e]
  refine ⟨fun h1 => ?_, fun h1 => ?_⟩
  · exact ret_ok (by rw [if_neg h1])
  refine ⟨fun h2 => ?_, fun h2 => ⟨fun h3 => ?_, fun h3 => ?_⟩⟩
  · exact ret_ok (by rw [if_pos h1, if_neg (by omega)])
  · exact ret_ok (by rw [if_pos h1, if_neg (by omega)])
  have h5 : 0 ≤ k ∧ k < c.ho.length := by omega
  refine CallG.mk (r_dating_Some c _) ?_
  unfold endsV
  simp only [h1, if_true]
  by_cases h4 : Ok c
  case neg =>
    simp only [h4, if_false]
    simp only [F_dating_Terminus, g_dating_Terminus, go_sem, reduceIte, Nat.reduceEqDiff, Nat.reduceAdd, Nat.reduceMul, Nat.reduceSub, reduceCtorEq, Nat.reduceLeDiff, Nat.reduceLT, Int.reduceLT, Int.reduceLE, Int.reduceToNat, Int.reduceAdd, Int.reduceSub, Int.reduceNeg, Int.reduceMul, Int.reduceEq, ← Bool.decide_and, ← Bool.decide_or, ↓tq_n, ↓tq_e, ↓tq_r, ↓bq_n, ↓bq_e, ↓bq_r, ↓rq_n, ↓rq_r, ↓rq_e]
    exact ret_ok (by simp [h1, endsV, *])
  simp only [h4, if_true]
  have hl2 := hoc_len c false
  have hk : k.toNat < (hoc c false).length := by omega
  simp only [asl, i64s_drop hk, F_dating_Terminus, g_dating_Terminus, go_sem, reduceIte, Nat.reduceEqDiff, Nat.reduceAdd, Nat.reduceMul, Nat.reduceSub, reduceCtorEq, Nat.reduceLeDiff, Nat.reduceLT, Int.reduceLT, Int.reduceLE, Int.reduceToNat, Int.reduceAdd, Int.reduceSub, Int.reduceNeg, Int.reduceMul, Int.reduceEq, ← Bool.decide_and, ← Bool.decide_or, ↓tq_n, ↓tq_e, ↓tq_r, ↓bq_n, ↓bq_e, ↓bq_r, ↓rq_n, ↓rq_r, ↓rq_e]
  exact ⟨by omega, by omega, ret_ok (by rw [if_pos h1, if_pos (by omega), if_pos h4])⟩

theorem r_ref_Terminus (c : Cr) (k : Int) (h : AH) : RCall Try.prog n_ref_Terminus [.st c.cs, I k] h (termV c k) := by
  refine RCall.of hm cF_ref_Terminus (by simp [g_ref_Terminus]) fun hw h' hl => ?_
  obtain ⟨hxT, hxH, hxG⟩ := cr_lens (n := 1) (hw _ (.head _))
  simp only [Cr.cs, F_ref_Terminus, g_ref_Terminus, go_sem, reduceIte, Nat.reduceEqDiff, Nat.reduceAdd, Nat.reduceMul, Nat.reduceSub, reduceCtorEq, Nat.reduceLeDiff, Nat.reduceLT, Int.reduceLT, Int.reduceLE, Int.reduceToNat, Int.reduceAdd, Int.reduceSub, Int.reduceNeg, Int.reduceMul, Int.reduceEq, ← Bool.decide_and, ← Bool.decide_or, ↓tq_n, ↓tq_e, ↓tq_r, ↓bq_n, ↓bq_e, ↓bq_r, ↓rq_n, ↓rq_r, ↓rq_e]
  refine CallG.mk (r_ref_Valid c _) ?_
  unfold termV
  simp only [F_ref_Terminus, g_ref_Terminus, go_sem, reduceIte, Nat.reduceEqDiff, Nat.reduceAdd, Nat.reduceMul, Nat.reduceSub, reduceCtorEq, Nat.reduceLeDiff, Nat.reduceLT, Int.reduceLT, Int.reduceLE, Int.reduceToNat, Int.reduceAdd, Int.reduceSub, Int.reduceNeg, Int.reduceMul, Int.reduceEq, ← Bool.decide_and, ← Bool.decide_or, ↓tq_n, ↓tq_e, ↓tq_r, ↓bq_n, ↓bq_e, ↓bq_r, ↓rq_n, ↓rq_r, ↓rq_e]
  refine ⟨fun h1 => ?_, fun h1 => ⟨by rw [inR64]; omega, ?_⟩⟩
  · exact ret_ok (by rw [if_neg h1])
  refine CallG.mk (r_base_In _ _ _ _) ?_
  simp only [F_ref_Terminus, g_ref_Terminus, go_sem, reduceIte, Nat.reduceEqDiff, Nat.reduceAdd, Nat.reduceMul, Nat.reduceSub, reduceCtorEq, Nat.reduceLeDiff, Nat.reduceLT, Int.reduceLT, Int.reduceLE, Int.reduceToNat, Int.reduceAdd, Int.reduceSub, Int.reduceNeg, Int.reduceMul, Int.reduceEq, ← Bool.decide_and, ← Bool.decide_or, ↓tq_n, ↓tq_e, ↓tq_r, ↓bq_n, ↓bq_e, ↓bq_r, ↓rq_n, ↓rq_r, ↓rq_e]
  refine ⟨fun h2 => ?_, fun h2 => ?_⟩
  · exact ret_ok (by rw [if_pos h1, if_neg (by omega)])
  have h5 : 0 ≤ k ∧ k < c.ho.length := by omega
  refine CallG.mk (ends_ref_Some c _) ?_
  unfold endsV
  simp only [h1, if_true]
  by_cases h4 : Ok c
  case neg =>
    simp only [h4, if_false]
    simp only [F_ref_Terminus, g_ref_Terminus, go_sem, reduceIte, Nat.reduceEqDiff, Nat.reduceAdd, Nat.reduceMul, Nat.reduceSub, reduceCtorEq, Nat.reduceLeDiff, Nat.reduceLT, Int.reduceLT, Int.reduceLE, Int.reduceToNat, Int.reduceAdd, Int.reduceSub, Int.reduceNeg, Int.reduceMul, Int.reduceEq, ← Bool.decide_and, ← Bool.decide_or, ↓tq_n, ↓tq_e, ↓tq_r, ↓bq_n, ↓bq_e, ↓bq_r, ↓rq_n, ↓rq_r, ↓rq_e]
    exact ret_ok (by simp [h1, endsV, *])
  simp only [h4, if_true]
  have hl2 := hoc_len c false
  have hk : k.toNat < (hoc c false).length := by omega
  simp only [asl, i64s_drop hk, F_ref_Terminus, g_ref_Terminus, go_sem, reduceIte, Nat.reduceEqDiff, Nat.reduceAdd, Nat.reduceMul, Nat.reduceSub, reduceCtorEq, Nat.reduceLeDiff, Nat.reduceLT, Int.reduceLT, Int.reduceLE, Int.reduceToNat, Int.reduceAdd, Int.reduceSub, Int.reduceNeg, Int.reduceMul, Int.reduceEq, ← Bool.decide_and, ← Bool.decide_or, ↓tq_n, ↓tq_e, ↓tq_r, ↓bq_n, ↓bq_e, ↓bq_r, ↓rq_n, ↓rq_r, ↓rq_e]
  exact ⟨by omega, by omega, ret_ok (by rw [if_pos h1, if_pos (by omega), if_pos h4])⟩

/-- The answers of Dates, of the reference. -/
def rdatesV (c : Cr) : AV := if VC c then (if Ok c then .tup [gl (prs (zT c)) c.ty.length .unk, gl (prs (zH c)) c.ho.length .unk, I 0] else .tup [.sl true 0 [] .full, .sl true 0 [] .full, I 10]) else .tup [.sl true 0 [] .full, .sl true 0 [] .full, I 1]
theorem zT_at (c : Cr) {i : Nat} (h : i < c.ty.length) : (zT c).getD i (0, 0) = ((loc c false).getD i 0, (loc c true).getD i 0) := by
  simp [zT, zA, loc, loT, hiT, List.getD, h, zv]
theorem zH_at (c : Cr) {i : Nat} (h : i < c.ho.length) : (zH c).getD i (0, 0) = ((hoc c false).getD i 0, (hoc c true).getD i 0) := by
  simp [zH, hoc, loH, hiH, List.getD, h, zv, Nat.add_assoc]
theorem r_ref_Dates (c : Cr) (h : AH) : RCall Try.prog n_ref_Dates [.st c.cs] h (rdatesV c) := by
  refine RCall.of hm cF_ref_Dates (by simp [g_ref_Dates]) fun hw h' hl => ?_
  simp only [Cr.cs, F_ref_Dates, g_ref_Dates, go_sem, reduceIte, Nat.reduceEqDiff, Nat.reduceAdd, Nat.reduceMul, Nat.reduceSub, reduceCtorEq, Nat.reduceLeDiff, Nat.reduceLT, Int.reduceLT, Int.reduceLE, Int.reduceToNat, Int.reduceAdd, Int.reduceSub, Int.reduceNeg, Int.reduceMul, Int.reduceEq, ← Bool.decide_and, ← Bool.decide_or, ↓tq_n, ↓tq_e, ↓tq_r, ↓bq_n, ↓bq_e, ↓bq_r, ↓rq_n, ↓rq_r, ↓rq_e]
  refine CallG.mk (ends_ref_Some c _) ?_
  unfold endsV rdatesV
  by_cases h1 : VC c
  case neg =>
    simp only [h1, if_false]
    simp only [F_ref_Dates, g_ref_Dates, go_sem, reduceIte, Nat.reduceEqDiff, Nat.reduceAdd, Nat.reduceMul, Nat.reduceSub, reduceCtorEq, Nat.reduceLeDiff, Nat.reduceLT, Int.reduceLT, Int.reduceLE, Int.reduceToNat, Int.reduceAdd, Int.reduceSub, Int.reduceNeg, Int.reduceMul, Int.reduceEq, ← Bool.decide_and, ← Bool.decide_or, ↓tq_n, ↓tq_e, ↓tq_r, ↓bq_n, ↓bq_e, ↓bq_r, ↓rq_n, ↓rq_r, ↓rq_e]
    exact ret_ok (by simp [h1, rdatesV, *])
  by_cases h2 : Ok c
  case neg =>
    simp only [h1, h2, if_false, if_true]
    simp only [F_ref_Dates, g_ref_Dates, go_sem, reduceIte, Nat.reduceEqDiff, Nat.reduceAdd, Nat.reduceMul, Nat.reduceSub, reduceCtorEq, Nat.reduceLeDiff, Nat.reduceLT, Int.reduceLT, Int.reduceLE, Int.reduceToNat, Int.reduceAdd, Int.reduceSub, Int.reduceNeg, Int.reduceMul, Int.reduceEq, ← Bool.decide_and, ← Bool.decide_or, ↓tq_n, ↓tq_e, ↓tq_r, ↓bq_n, ↓bq_e, ↓bq_r, ↓rq_n, ↓rq_r, ↓rq_e]
    exact ret_ok (by simp [h1, rdatesV, *])
  simp only [h1, h2, if_true]
  simp only [F_ref_Dates, g_ref_Dates, go_sem, reduceIte, Nat.reduceEqDiff, Nat.reduceAdd, Nat.reduceMul, Nat.reduceSub, reduceCtorEq, Nat.reduceLeDiff, Nat.reduceLT, Int.reduceLT, Int.reduceLE, Int.reduceToNat, Int.reduceAdd, Int.reduceSub, Int.reduceNeg, Int.reduceMul, Int.reduceEq, ← Bool.decide_and, ← Bool.decide_or, ↓tq_n, ↓tq_e, ↓tq_r, ↓bq_n, ↓bq_e, ↓bq_r, ↓rq_n, ↓rq_r, ↓rq_e]
  refine CallG.mk (ends_ref_Last c _) ?_
  unfold endsV
  simp only [h1, h2, if_true]
  simp only [F_ref_Dates, g_ref_Dates, go_sem, reduceIte, Nat.reduceEqDiff, Nat.reduceAdd, Nat.reduceMul, Nat.reduceSub, reduceCtorEq, Nat.reduceLeDiff, Nat.reduceLT, Int.reduceLT, Int.reduceLE, Int.reduceToNat, Int.reduceAdd, Int.reduceSub, Int.reduceNeg, Int.reduceMul, Int.reduceEq, ← Bool.decide_and, ← Bool.decide_or, ↓tq_n, ↓tq_e, ↓tq_r, ↓bq_n, ↓bq_e, ↓bq_r, ↓rq_n, ↓rq_r, ↓rq_e]
  have b8 := h1.1
  have lf := loc_len c false
  have lt := loc_len c true
  have kf := hoc_len c false
  have kt := hoc_len c true
  have lz := zT_len c
  have kz := zH_len c
  refine awp_tok 11 2 (nl := true) (n := 0) (cs := []) rfl fun t ht => ?_
  refine awp_loop (fun i : Nat => [(5, asl (loc c false)), (6, asl (hoc c false)), (8, asl (loc c true)), (9, asl (hoc c true)), (11, gl (prs ((zT c).take i)) i (.tok t)), (12, .sl true 0 [] .full), (13, I i)]) (fun i => h'.setTok t i 2) (fun i => i ≤ c.ty.length) (fun i => c.ty.length - i) 0 (Nat.zero_le _) (GStep.forget (by repeat' first | exact EnvLe.nil _ | refine EnvLe.cons (AV.le.of_eq rfl) ?_ | refine EnvLe.cons (AV.le.undef _) ?_ | refine EnvLe.cons AV.le.unk ?_) (by repeat' first | exact AH.le.refl _ | assumption | (refine AH.le_put ?_ (by first | assumption | exact (AH.blk_put_ne _ _ (by assumption)).trans (by assumption) | exact AH.none_put (by assumption) | exact AH.none_put (AH.none_put (by assumption)) | (simp only [AH.blk_setTok, AH.tok_put] at *; first | assumption | exact AH.none_put (by assumption)))) | (refine AH.le_setTok ?_ (by first | assumption | exact (AH.blk_put_ne _ _ (by assumption)).trans (by assumption) | exact AH.none_put (by assumption) | exact AH.none_put (AH.none_put (by assumption)) | (simp only [AH.blk_setTok, AH.tok_put] at *; first | assumption | exact AH.none_put (by assumption)))) | (refine AH.le_putM ?_ (by first | assumption | exact (AH.mp_putM_ne _ _ (by assumption)).trans (by assumption) | (simp only [AH.mp_put, AH.mp_setTok] at *; assumption))))) fun i hi => .of_vg hm ?_
  by_cases h3 : i < c.ty.length
  · have hc3 : (i : Int) < ((loc c false).length : Int) := by omega
    have hc4 : (i : Int) < ((loc c true).length : Int) := by omega
    have e1 := take_getD (0, 0) (l := zT c) (i := i) (by omega)
    have e2 := zT_at c h3
    simp only [asl, hc3, hc4, i64s_drop (xs := loc c false) (i := i) (by omega), i64s_drop (xs := loc c true) (i := i) (by omega), F_ref_Dates, g_ref_Dates, go_sem, reduceIte, Nat.reduceEqDiff, Nat.reduceAdd, Nat.reduceMul, Nat.reduceSub, reduceCtorEq, Nat.reduceLeDiff, Nat.reduceLT, Int.reduceLT, Int.reduceLE, Int.reduceToNat, Int.reduceAdd, Int.reduceSub, Int.reduceNeg, Int.reduceMul, Int.reduceEq, ← Bool.decide_and, ← Bool.decide_or, ↓tq_n, ↓tq_e, ↓tq_r, ↓bq_n, ↓bq_e, ↓bq_r, ↓rq_n, ↓rq_r, ↓rq_e]
    refine ⟨by rw [prs_len]; simp; omega, by omega, by omega, by rw [inR64]; omega, i + 1, by omega, by omega, ?_⟩
    rw [e1, e2, prs_append]
    exact (GStep.forget (by repeat' first | exact EnvLe.nil _ | refine EnvLe.cons (AV.le.of_eq rfl) ?_ | refine EnvLe.cons (AV.le.undef _) ?_ | refine EnvLe.cons AV.le.unk ?_) (by repeat' first | exact AH.le.refl _ | assumption | (refine AH.le_put ?_ (by first | assumption | exact (AH.blk_put_ne _ _ (by assumption)).trans (by assumption) | exact AH.none_put (by assumption) | exact AH.none_put (AH.none_put (by assumption)) | (simp only [AH.blk_setTok, AH.tok_put] at *; first | assumption | exact AH.none_put (by assumption)))) | (refine AH.le_setTok ?_ (by first | assumption | exact (AH.blk_put_ne _ _ (by assumption)).trans (by assumption) | exact AH.none_put (by assumption) | exact AH.none_put (AH.none_put (by assumption)) | (simp only [AH.blk_setTok, AH.tok_put] at *; first | assumption | exact AH.none_put (by assumption)))) | (refine AH.le_putM ?_ (by first | assumption | exact (AH.mp_putM_ne _ _ (by assumption)).trans (by assumption) | (simp only [AH.mp_put, AH.mp_setTok] at *; assumption)))))
  have h3 : i = c.ty.length := by omega
  subst h3
  simp only [asl, lf, F_ref_Dates, g_ref_Dates, go_sem, reduceIte, Nat.reduceEqDiff, Nat.reduceAdd, Nat.reduceMul, Nat.reduceSub, reduceCtorEq, Nat.reduceLeDiff, Nat.reduceLT, Int.reduceLT, Int.reduceLE, Int.reduceToNat, Int.reduceAdd, Int.reduceSub, Int.reduceNeg, Int.reduceMul, Int.reduceEq, ← Bool.decide_and, ← Bool.decide_or, ↓tq_n, ↓tq_e, ↓tq_r, ↓bq_n, ↓bq_e, ↓bq_r, ↓rq_n, ↓rq_r, ↓rq_e]
  refine awp_tok 12 2 (nl := true) (n := 0) (cs := []) rfl fun u hu => ?_
  have htu : t ≠ u := fun hh => by subst hh; rw [AH.tok_setTok] at hu; cases hu
  have hu2 : h'.tok u = none := by
    simp only [AH.setTok] at hu
    rw [if_neg (fun hh => htu hh.symm)] at hu
    exact hu
  refine awp_loop (fun i : Nat => [(6, asl (hoc c false)), (9, asl (hoc c true)), (11, gl (prs (zT c)) c.ty.length .unk), (12, gl (prs ((zH c).take i)) i (.tok u)), (14, I i)]) (fun i => h'.setTok u i 2) (fun i => i ≤ c.ho.length) (fun i => c.ho.length - i) 0 (Nat.zero_le _) ?_ fun i hi => .of_vg hm ?_
  · refine GStep.forget ?_ ?_
    · rw [show (zT c).take c.ty.length = zT c from List.take_of_length_le (by omega)]
      exact (by repeat' first | exact EnvLe.nil _ | refine EnvLe.cons (AV.le.of_eq rfl) ?_ | refine EnvLe.cons (AV.le.undef _) ?_ | refine EnvLe.cons AV.le.unk ?_)
    · exact AH.le_setTok2 (AH.le_setTok (.refl _) ht)
  by_cases h3 : i < c.ho.length
  · have hc3 : (i : Int) < ((hoc c false).length : Int) := by omega
    have hc4 : (i : Int) < ((hoc c true).length : Int) := by omega
    have e1 := take_getD (0, 0) (l := zH c) (i := i) (by omega)
    have e2 := zH_at c h3
    simp only [asl, hc3, hc4, i64s_drop (xs := hoc c false) (i := i) (by omega), i64s_drop (xs := hoc c true) (i := i) (by omega), F_ref_Dates, g_ref_Dates, go_sem, reduceIte, Nat.reduceEqDiff, Nat.reduceAdd, Nat.reduceMul, Nat.reduceSub, reduceCtorEq, Nat.reduceLeDiff, Nat.reduceLT, Int.reduceLT, Int.reduceLE, Int.reduceToNat, Int.reduceAdd, Int.reduceSub, Int.reduceNeg, Int.reduceMul, Int.reduceEq, ← Bool.decide_and, ← Bool.decide_or, ↓tq_n, ↓tq_e, ↓tq_r, ↓bq_n, ↓bq_e, ↓bq_r, ↓rq_n, ↓rq_r, ↓rq_e]
    refine ⟨by rw [prs_len]; simp; omega, by omega, by omega, by rw [inR64]; omega, i + 1, by omega, by omega, ?_⟩
    rw [e1, e2, prs_append]
    exact (GStep.forget (by repeat' first | exact EnvLe.nil _ | refine EnvLe.cons (AV.le.of_eq rfl) ?_ | refine EnvLe.cons (AV.le.undef _) ?_ | refine EnvLe.cons AV.le.unk ?_) (by repeat' first | exact AH.le.refl _ | assumption | (refine AH.le_put ?_ (by first | assumption | exact (AH.blk_put_ne _ _ (by assumption)).trans (by assumption) | exact AH.none_put (by assumption) | exact AH.none_put (AH.none_put (by assumption)) | (simp only [AH.blk_setTok, AH.tok_put] at *; first | assumption | exact AH.none_put (by assumption)))) | (refine AH.le_setTok ?_ (by first | assumption | exact (AH.blk_put_ne _ _ (by assumption)).trans (by assumption) | exact AH.none_put (by assumption) | exact AH.none_put (AH.none_put (by assumption)) | (simp only [AH.blk_setTok, AH.tok_put] at *; first | assumption | exact AH.none_put (by assumption)))) | (refine AH.le_putM ?_ (by first | assumption | exact (AH.mp_putM_ne _ _ (by assumption)).trans (by assumption) | (simp only [AH.mp_put, AH.mp_setTok] at *; assumption)))))
  have h3 : i = c.ho.length := by omega
  subst h3
  simp only [asl, kf, F_ref_Dates, g_ref_Dates, go_sem, reduceIte, Nat.reduceEqDiff, Nat.reduceAdd, Nat.reduceMul, Nat.reduceSub, reduceCtorEq, Nat.reduceLeDiff, Nat.reduceLT, Int.reduceLT, Int.reduceLE, Int.reduceToNat, Int.reduceAdd, Int.reduceSub, Int.reduceNeg, Int.reduceMul, Int.reduceEq, ← Bool.decide_and, ← Bool.decide_or, ↓tq_n, ↓tq_e, ↓tq_r, ↓bq_n, ↓bq_e, ↓bq_r, ↓rq_n, ↓rq_r, ↓rq_e]
  rw [show (zH c).take c.ho.length = zH c from List.take_of_length_le (by omega)]
  rw [if_pos h1, if_pos h2]
  exact ret_le (by repeat' first | exact AH.le.refl _ | assumption | (refine AH.le_put ?_ (by first | assumption | exact (AH.blk_put_ne _ _ (by assumption)).trans (by assumption) | exact AH.none_put (by assumption) | exact AH.none_put (AH.none_put (by assumption)) | (simp only [AH.blk_setTok, AH.tok_put] at *; first | assumption | exact AH.none_put (by assumption)))) | (refine AH.le_setTok ?_ (by first | assumption | exact (AH.blk_put_ne _ _ (by assumption)).trans (by assumption) | exact AH.none_put (by assumption) | exact AH.none_put (AH.none_put (by assumption)) | (simp only [AH.blk_setTok, AH.tok_put] at *; first | assumption | exact AH.none_put (by assumption)))) | (refine AH.le_putM ?_ (by first | assumption | exact (AH.mp_putM_ne _ _ (by assumption)).trans (by assumption) | (simp only [AH.mp_put, AH.mp_setTok] at *; assumption)))) (by
    intro s v hv
    obtain ⟨vs, rfl, hr⟩ := hv.tup_inv
    obtain ⟨g1, g2⟩ := hr
    obtain ⟨x, y, z, rfl⟩ : ∃ x y z, vs = [x, y, z] := by
      match vs, g1 with
      | [x, y, z], _ => exact ⟨x, y, z, rfl⟩
    have a1 := g2 0 _ x rfl rfl
    have a2 := g2 1 _ y rfl rfl
    have a3 := g2 2 _ z rfl rfl
    exact .tup _ [x, y, z] rfl (VRels.cons a1 (VRels.cons a2.unk (VRels.cons a3 (.nil s)))).2)
end Go.Proofs.Ytcicklmlbdfneaa
