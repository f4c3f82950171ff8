/- Calls of functions of this seat's program: the hoards that are needed. No condition. -/
import Derived.Test.YtcicklmlbdfneaaD16
import Derived.Test.YtcicklmlbdfneaaA23
import Derived.Test.YtcicklmlbdfneaaC5
namespace Go.Proofs.Ytcicklmlbdfneaa
open Go Go.Abs
set_option linter.unusedSimpArgs false
set_option linter.unusedVariables false
set_option maxRecDepth 20000

theorem s_slices_Clone_int (xs : List Int) (tl : Tail) (h1 : 1 ≤ xs.length) (hl1 : xs.length ≤ 1000) (h : AH) :
    ACalls Try.prog n_slices_Clone_int [.sl false xs.length (i64s xs) tl] h fun r h' => ∃ b q, xs.length ≤ q ∧ h.blk b = none ∧ r = .msl b 0 xs.length (some q) ∧ h' = h.put b (i64s xs ++ List.replicate (q - xs.length) .undef) := by
  refine ACalls.of hm cF_slices_Clone_int (by simp [g_slices_Clone_int]) fun hw => ?_
  simp only [F_slices_Clone_int, g_slices_Clone_int, go_sem, reduceIte, Nat.reduceEqDiff, Nat.reduceAdd, Nat.reduceMul, Nat.reduceSub, reduceCtorEq, Nat.reduceLeDiff, Nat.reduceLT, Int.reduceLT, Int.reduceLE, Int.reduceToNat, Int.reduceAdd, Int.reduceSub, Int.reduceNeg, Int.reduceMul, Int.reduceEq, ← Bool.decide_and, ← Bool.decide_or, ↓tq_n, ↓tq_e, ↓tq_r, ↓bq_n, ↓bq_e, ↓bq_r, ↓rq_n, ↓rq_r, ↓rq_e]
  refine ⟨i64s_len _, by omega, by omega, by omega, GrowG.mk fun b q hq hb => ?_⟩
  simp only [F_slices_Clone_int, g_slices_Clone_int, go_sem, reduceIte, Nat.reduceEqDiff, Nat.reduceAdd, Nat.reduceMul, Nat.reduceSub, reduceCtorEq, Nat.reduceLeDiff, Nat.reduceLT, Int.reduceLT, Int.reduceLE, Int.reduceToNat, Int.reduceAdd, Int.reduceSub, Int.reduceNeg, Int.reduceMul, Int.reduceEq, ← Bool.decide_and, ← Bool.decide_or, ↓tq_n, ↓tq_e, ↓tq_r, ↓bq_n, ↓bq_e, ↓bq_r, ↓rq_n, ↓rq_r, ↓rq_e]
  exact ⟨_, _, .refl _ _, b, q, hq, hb, rfl, rfl⟩

theorem s_slices_Delete_int (xs : List Int) {h : AH} {b q : Nat} (hq : xs.length ≤ q) (hb : h.blk b = some (i64s xs ++ List.replicate (q - xs.length) .undef)) (hq2 : xs.length ≤ 1000) {i : Nat} (hi : i < xs.length) :
    ACalls Try.prog n_slices_Delete_int [.msl b 0 xs.length (some q), I i, I ((i : Int) + 1)] h fun r h' => r = .sl false (xs.length - 1) (i64s (xs.eraseIdx i)) .unk ∧ h' = h.del b := by
  refine ACalls.of hm cF_slices_Delete_int (by simp [g_slices_Delete_int]) fun hw => ?_
  have c1 : ((i : Int) + 1).toNat = i + 1 := by omega
  have c2 : ¬ (i : Int) = (i : Int) + 1 := by omega
  have hc3 : (0 : Int) ≤ (i : Int) + 1 := by omega
  obtain ⟨cs0, hcs⟩ : ∃ cs0, cs0 = i64s xs ++ List.replicate (q - xs.length) AV.undef := ⟨_, rfl⟩
  have hlen : cs0.length = q := by rw [hcs, List.length_append, i64s_len, List.length_replicate]; omega
  rw [← hcs] at hb
  obtain ⟨ys, hys⟩ : ∃ ys, ys = (cs0.drop (i + 1)).take (xs.length - (i + 1)) := ⟨_, rfl⟩
  have hyl : ys.length = xs.length - (i + 1) := by rw [hys, List.length_take, List.length_drop, hlen]; omega
  have hfin : ∀ z, (spl (spl cs0 i ys) (xs.length - 1) [z]).take (xs.length - 1) = i64s (xs.eraseIdx i) := fun z => by
    have e1 : spl cs0 i ys = cs0.take i ++ ys ++ cs0.drop (i + ys.length) := spl_eq _ _ _ (by omega)
    have l1 : (spl cs0 i ys).length = q := by rw [e1]; simp only [List.length_append, List.length_take, List.length_drop]; omega
    rw [spl_eq _ _ _ (by rw [l1]; simp only [List.length_singleton]; omega), List.append_assoc, List.take_append_of_le_length (by rw [List.length_take, l1]; omega), List.take_take, Nat.min_self, e1, List.append_assoc]
    rw [List.take_append, List.take_append]
    have l2 : (cs0.take i).length = i := by rw [List.length_take]; omega
    rw [l2, List.take_of_length_le (by rw [l2]; omega), List.take_of_length_le (l := ys) (by omega), show xs.length - 1 - i - ys.length = 0 by omega, List.take_zero, List.append_nil]
    rw [List.eraseIdx_eq_take_drop_succ, i64s_append, hys, hcs]
    congr 1
    · rw [List.take_append_of_le_length (by rw [i64s_len]; omega), i64s_take]
    · rw [List.drop_append_of_le_length (by rw [i64s_len]; omega), i64s_dropn, List.take_append_of_le_length (by rw [i64s_len, List.length_drop]; omega), List.take_of_length_le (by rw [i64s_len, List.length_drop]; omega)]
  have hq3 : i + (xs.length - (i + 1)) ≤ q := by omega
  have l3 : (spl cs0 i ys).length = q := by
    rw [spl_eq _ _ _ (by omega)]; simp only [List.length_append, List.length_take, List.length_drop]; omega
  have hx1 : i + (xs.length - (i + 1)) = xs.length - 1 := by omega
  have hx2 : xs.length - (xs.length - 1) = 1 := by omega
  by_cases hend : i + 1 < q
  · simp only [c1, c2, mslCut_lt (show i < xs.length from hi), mslCut_lt hend, Nat.sub_zero, hb, ← hys, Nat.mul_one, hx1, F_slices_Delete_int, g_slices_Delete_int, go_sem, reduceIte, Nat.reduceEqDiff, Nat.reduceAdd, Nat.reduceMul, Nat.reduceSub, reduceCtorEq, Nat.reduceLeDiff, Nat.reduceLT, Int.reduceLT, Int.reduceLE, Int.reduceToNat, Int.reduceAdd, Int.reduceSub, Int.reduceNeg, Int.reduceMul, Int.reduceEq, ← Bool.decide_and, ← Bool.decide_or, ↓tq_n, ↓tq_e, ↓tq_r, ↓bq_n, ↓bq_e, ↓bq_r, ↓rq_n, ↓rq_r, ↓rq_e]
    (repeat (refine ⟨by first | omega | (rw [inR64]; omega) | rfl, ?_⟩))
    refine ⟨fun _ => ⟨by omega, ?_⟩, fun hn => absurd hn (by omega)⟩
    simp only [mslCut_lt (show xs.length - 1 < q by omega), Nat.mul_one, hx2, l3, F_slices_Delete_int, g_slices_Delete_int, go_sem, reduceIte, Nat.reduceEqDiff, Nat.reduceAdd, Nat.reduceMul, Nat.reduceSub, reduceCtorEq, Nat.reduceLeDiff, Nat.reduceLT, Int.reduceLT, Int.reduceLE, Int.reduceToNat, Int.reduceAdd, Int.reduceSub, Int.reduceNeg, Int.reduceMul, Int.reduceEq, ← Bool.decide_and, ← Bool.decide_or, ↓tq_n, ↓tq_e, ↓tq_r, ↓bq_n, ↓bq_e, ↓bq_r, ↓rq_n, ↓rq_r, ↓rq_e]
    (repeat (refine ⟨by first | omega | (rw [inR64]; omega) | rfl, ?_⟩))
    refine ⟨_, _, RGh.fix (AH.blk_put _ _ _) 1, ?_, ?_⟩
    · rw [Nat.mul_one]; exact congrArg (fun z => AV.sl false (xs.length - 1) z .unk) (hfin _)
    · simp only [AH.put, AH.del]
      congr 1
      funext y
      split <;> rfl
  · have hxq : xs.length = q := by omega
    have hxi : xs.length = i + 1 := by omega
    have hy0 : ys = [] := List.eq_nil_of_length_eq_zero (by omega)
    subst hy0
    simp only [c1, c2, mslCut_lt (show i < xs.length from hi), mslCut_end (show i + 1 ≠ 0 by omega) hend, Nat.sub_zero, hb, Nat.mul_one, hx1, F_slices_Delete_int, g_slices_Delete_int, go_sem, reduceIte, Nat.reduceEqDiff, Nat.reduceAdd, Nat.reduceMul, Nat.reduceSub, reduceCtorEq, Nat.reduceLeDiff, Nat.reduceLT, Int.reduceLT, Int.reduceLE, Int.reduceToNat, Int.reduceAdd, Int.reduceSub, Int.reduceNeg, Int.reduceMul, Int.reduceEq, ← Bool.decide_and, ← Bool.decide_or, ↓tq_n, ↓tq_e, ↓tq_r, ↓bq_n, ↓bq_e, ↓bq_r, ↓rq_n, ↓rq_r, ↓rq_e]
    (repeat (refine ⟨by first | omega | (rw [inR64]; omega) | rfl, ?_⟩))
    refine ⟨fun _ => ⟨by omega, ?_⟩, fun hn => absurd hn (by omega)⟩
    have e0 : h.put b cs0 = h.put b (spl cs0 i []) := rfl
    rw [e0]
    simp only [mslCut_lt (show xs.length - 1 < q by omega), Nat.mul_one, hx2, l3, F_slices_Delete_int, g_slices_Delete_int, go_sem, reduceIte, Nat.reduceEqDiff, Nat.reduceAdd, Nat.reduceMul, Nat.reduceSub, reduceCtorEq, Nat.reduceLeDiff, Nat.reduceLT, Int.reduceLT, Int.reduceLE, Int.reduceToNat, Int.reduceAdd, Int.reduceSub, Int.reduceNeg, Int.reduceMul, Int.reduceEq, ← Bool.decide_and, ← Bool.decide_or, ↓tq_n, ↓tq_e, ↓tq_r, ↓bq_n, ↓bq_e, ↓bq_r, ↓rq_n, ↓rq_r, ↓rq_e]
    (repeat (refine ⟨by first | omega | (rw [inR64]; omega) | rfl, ?_⟩))
    refine ⟨_, _, RGh.fix (AH.blk_put _ _ _) 1, ?_, ?_⟩
    · rw [Nat.mul_one]; exact congrArg (fun z => AV.sl false (xs.length - 1) z .unk) (hfin _)
    · simp only [AH.put, AH.del]
      congr 1
      funext y
      split <;> rfl

/-- A chronology with some of its hoards. -/
def onlyC (c : Cr) (l : List Int) : Cr := { c with nlH := decide (l.length = 0), ho := l.map fun i => c.ho.getD i.toNat dH, tlH := .unk }
theorem hd_len (x : Hd) : x.cs.length = 4 := rfl

theorem r_ref_Only (c : Cr) (nl : Bool) (l : List Int) (tl : Tail) (hl1 : l.length ≤ 1000) (hin : ∀ i, i < l.length → 0 ≤ l.getD i 0 ∧ l.getD i 0 < c.ho.length) (h : AH) :
    RCall Try.prog n_ref_Only [.st c.cs, .sl nl l.length (i64s l) tl] h (.st (onlyC c l).cs) := by
  refine RCall.of hm cF_ref_Only (by simp [g_ref_Only]) fun hw h' hl => ?_
  simp only [Cr.cs, F_ref_Only, g_ref_Only, go_sem, reduceIte, Nat.reduceEqDiff, Nat.reduceAdd, Nat.reduceMul, Nat.reduceSub, reduceCtorEq, Nat.reduceLeDiff, Nat.reduceLT, Int.reduceLT, Int.reduceLE, Int.reduceToNat, Int.reduceAdd, Int.reduceSub, Int.reduceNeg, Int.reduceMul, Int.reduceEq, ← Bool.decide_and, ← Bool.decide_or, ↓tq_n, ↓tq_e, ↓tq_r, ↓bq_n, ↓bq_e, ↓bq_r, ↓rq_n, ↓rq_r, ↓rq_e]
  refine AllocG.mk fun b4 hb4 => ?_
  simp only [F_ref_Only, g_ref_Only, go_sem, reduceIte, Nat.reduceEqDiff, Nat.reduceAdd, Nat.reduceMul, Nat.reduceSub, reduceCtorEq, Nat.reduceLeDiff, Nat.reduceLT, Int.reduceLT, Int.reduceLE, Int.reduceToNat, Int.reduceAdd, Int.reduceSub, Int.reduceNeg, Int.reduceMul, Int.reduceEq, ← Bool.decide_and, ← Bool.decide_or, ↓tq_n, ↓tq_e, ↓tq_r, ↓bq_n, ↓bq_e, ↓bq_r, ↓rq_n, ↓rq_r, ↓rq_e]
  refine AllocG.mk fun b5 hb5 => ?_
  have hne : b5 ≠ b4 := AH.ne_of_put hb5
  have hb5' := AH.none_put hb5
  simp only [F_ref_Only, g_ref_Only, go_sem, reduceIte, Nat.reduceEqDiff, Nat.reduceAdd, Nat.reduceMul, Nat.reduceSub, reduceCtorEq, Nat.reduceLeDiff, Nat.reduceLT, Int.reduceLT, Int.reduceLE, Int.reduceToNat, Int.reduceAdd, Int.reduceSub, Int.reduceNeg, Int.reduceMul, Int.reduceEq, ← Bool.decide_and, ← Bool.decide_or, ↓tq_n, ↓tq_e, ↓tq_r, ↓bq_n, ↓bq_e, ↓bq_r, ↓rq_n, ↓rq_r, ↓rq_e]
  refine awp_tokB b5 1 4 (nl := true) (n := 0) (cs := []) (AH.blk_put _ _ _) rfl fun t ht => ?_
  obtain ⟨F, hF⟩ : ∃ F : Nat → List AV, F = fun i => [.sl c.nlT c.ty.length (prs c.ty) c.tlT, gl (((l.take i).map fun i => c.ho.getD i.toNat dH).flatMap Hd.cs) i (.tok t), .sl c.nlG c.ga.length (trs c.ga) c.tlG] := ⟨_, rfl⟩
  obtain ⟨B, hB⟩ : ∃ B : AH, B = h'.put b4 [.sl true 0 [] .full, .sl true 0 [] .full, .sl true 0 [] .full] := ⟨_, rfl⟩
  rw [← hB] at hb5 ht ⊢
  have hbB : B.blk b4 = some [.sl true 0 [] .full, .sl true 0 [] .full, .sl true 0 [] .full] := by rw [hB, AH.blk_put]
  have htB : B.tok t = none := ht
  refine awp_loop (fun i : Nat => [(1, .sl nl l.length (i64s l) tl), (2, .sptr [.sl c.nlT c.ty.length (prs c.ty) c.tlT, .sl c.nlH c.ho.length (hds c.ho) c.tlH, .sl c.nlG c.ga.length (trs c.ga) c.tlG]), (4, .ptr b4 0), (5, .ptr b5 0), (6, I i)])
    (fun i => (B.put b5 (F i)).setTok t i 4) (fun i => i ≤ l.length) (fun i => l.length - i) 0 (Nat.zero_le _) ?_ fun i hi => .of_vg hm ?_
  · rw [hF]
    rw [AH.put_put]
    exact (GStep.forget (by repeat' first | exact EnvLe.nil _ | refine EnvLe.cons (AV.le.of_eq rfl) ?_ | refine EnvLe.cons (AV.le.undef _) ?_ | refine EnvLe.cons AV.le.unk ?_) (by repeat' first | exact AH.le.refl _ | assumption | (refine AH.le_put ?_ (by first | assumption | exact (AH.blk_put_ne _ _ (by assumption)).trans (by assumption) | exact AH.none_put (by assumption) | exact AH.none_put (AH.none_put (by assumption)) | (simp only [AH.blk_setTok, AH.tok_put] at *; first | assumption | exact AH.none_put (by assumption)))) | (refine AH.le_setTok ?_ (by first | assumption | exact (AH.blk_put_ne _ _ (by assumption)).trans (by assumption) | exact AH.none_put (by assumption) | exact AH.none_put (AH.none_put (by assumption)) | (simp only [AH.blk_setTok, AH.tok_put] at *; first | assumption | exact AH.none_put (by assumption)))) | (refine AH.le_putM ?_ (by first | assumption | exact (AH.mp_putM_ne _ _ (by assumption)).trans (by assumption) | (simp only [AH.mp_put, AH.mp_setTok] at *; assumption)))))
  by_cases h3 : i < l.length
  · have hc3 : (i : Int) < (l.length : Int) := by omega
    obtain ⟨j, hj⟩ : ∃ j : Nat, l.getD i 0 = j := ⟨(l.getD i 0).toNat, by have := (hin i h3).1; omega⟩
    have hjl := (hin i h3).2
    rw [hj] at hjl
    have hjn : j < c.ho.length := by omega
    have e1 := take_map_succ (fun i => c.ho.getD i.toNat dH) 0 h3
    rw [hj] at e1
    simp only [Int.toNat_natCast] at e1
    have hlen : (((l.take i).map fun i => c.ho.getD i.toNat dH).flatMap Hd.cs).length = i * 4 := by rw [flat_len hd_len]; simp; omega
    have hFi : F i = [.sl c.nlT c.ty.length (prs c.ty) c.tlT, gl (((l.take i).map fun i => c.ho.getD i.toNat dH).flatMap Hd.cs) i (.tok t), .sl c.nlG c.ga.length (trs c.ga) c.tlG] := by rw [hF]
    have hFs : F (i + 1) = [.sl c.nlT c.ty.length (prs c.ty) c.tlT, gl (((l.take i).map fun i => c.ho.getD i.toNat dH).flatMap Hd.cs ++ (c.ho.getD j dH).cs) (i + 1) (.tok t), .sl c.nlG c.ga.length (trs c.ga) c.tlG] := by
      rw [hF]
      simp only [e1, List.flatMap_append, List.flatMap_singleton]
    simp only [hc3, i64s_drop h3, hj, hjl, hds_drop hjn, hFi, F_ref_Only, g_ref_Only, go_sem, reduceIte, Nat.reduceEqDiff, Nat.reduceAdd, Nat.reduceMul, Nat.reduceSub, reduceCtorEq, Nat.reduceLeDiff, Nat.reduceLT, Int.reduceLT, Int.reduceLE, Int.reduceToNat, Int.reduceAdd, Int.reduceSub, Int.reduceNeg, Int.reduceMul, Int.reduceEq, ← Bool.decide_and, ← Bool.decide_or, ↓tq_n, ↓tq_e, ↓tq_r, ↓bq_n, ↓bq_e, ↓bq_r, ↓rq_n, ↓rq_r, ↓rq_e]
    refine ⟨hlen, by omega, by omega, by rw [inR64]; omega, i + 1, by omega, by omega, ?_⟩
    rw [hFs]
    simp only [Hd.cs]
    exact (GStep.forget (by repeat' first | exact EnvLe.nil _ | refine EnvLe.cons (AV.le.of_eq rfl) ?_ | refine EnvLe.cons (AV.le.undef _) ?_ | refine EnvLe.cons AV.le.unk ?_) (by repeat' first | exact AH.le.refl _ | assumption | (refine AH.le_put ?_ (by first | assumption | exact (AH.blk_put_ne _ _ (by assumption)).trans (by assumption) | exact AH.none_put (by assumption) | exact AH.none_put (AH.none_put (by assumption)) | (simp only [AH.blk_setTok, AH.tok_put] at *; first | assumption | exact AH.none_put (by assumption)))) | (refine AH.le_setTok ?_ (by first | assumption | exact (AH.blk_put_ne _ _ (by assumption)).trans (by assumption) | exact AH.none_put (by assumption) | exact AH.none_put (AH.none_put (by assumption)) | (simp only [AH.blk_setTok, AH.tok_put] at *; first | assumption | exact AH.none_put (by assumption)))) | (refine AH.le_putM ?_ (by first | assumption | exact (AH.mp_putM_ne _ _ (by assumption)).trans (by assumption) | (simp only [AH.mp_put, AH.mp_setTok] at *; assumption)))))
  have h3 : i = l.length := by omega
  subst h3
  have hFi : F l.length = [.sl c.nlT c.ty.length (prs c.ty) c.tlT, gl ((l.map fun i => c.ho.getD i.toNat dH).flatMap Hd.cs) l.length (.tok t), .sl c.nlG c.ga.length (trs c.ga) c.tlG] := by
    rw [hF]
    simp only [List.take_length]
  simp only [hFi, AH.blk_put_ne _ _ hne.symm, hbB, F_ref_Only, g_ref_Only, go_sem, reduceIte, Nat.reduceEqDiff, Nat.reduceAdd, Nat.reduceMul, Nat.reduceSub, reduceCtorEq, Nat.reduceLeDiff, Nat.reduceLT, Int.reduceLT, Int.reduceLE, Int.reduceToNat, Int.reduceAdd, Int.reduceSub, Int.reduceNeg, Int.reduceMul, Int.reduceEq, ← Bool.decide_and, ← Bool.decide_or, ↓tq_n, ↓tq_e, ↓tq_r, ↓bq_n, ↓bq_e, ↓bq_r, ↓rq_n, ↓rq_r, ↓rq_e]
  refine ret_le ?_ ?_
  · have hle : h'.le B := by rw [hB]; exact (by repeat' first | exact AH.le.refl _ | assumption | (refine AH.le_put ?_ (by first | assumption | exact (AH.blk_put_ne _ _ (by assumption)).trans (by assumption) | exact AH.none_put (by assumption) | exact AH.none_put (AH.none_put (by assumption)) | (simp only [AH.blk_setTok, AH.tok_put] at *; first | assumption | exact AH.none_put (by assumption)))) | (refine AH.le_setTok ?_ (by first | assumption | exact (AH.blk_put_ne _ _ (by assumption)).trans (by assumption) | exact AH.none_put (by assumption) | exact AH.none_put (AH.none_put (by assumption)) | (simp only [AH.blk_setTok, AH.tok_put] at *; first | assumption | exact AH.none_put (by assumption)))) | (refine AH.le_putM ?_ (by first | assumption | exact (AH.mp_putM_ne _ _ (by assumption)).trans (by assumption) | (simp only [AH.mp_put, AH.mp_setTok] at *; assumption))))
    have ht' : h'.tok t = none := by rw [hB] at htB; exact htB
    exact (by repeat' first | exact AH.le.refl _ | assumption | (refine AH.le_put ?_ (by first | assumption | exact (AH.blk_put_ne _ _ (by assumption)).trans (by assumption) | exact AH.none_put (by assumption) | exact AH.none_put (AH.none_put (by assumption)) | (simp only [AH.blk_setTok, AH.tok_put] at *; first | assumption | exact AH.none_put (by assumption)))) | (refine AH.le_setTok ?_ (by first | assumption | exact (AH.blk_put_ne _ _ (by assumption)).trans (by assumption) | exact AH.none_put (by assumption) | exact AH.none_put (AH.none_put (by assumption)) | (simp only [AH.blk_setTok, AH.tok_put] at *; first | assumption | exact AH.none_put (by assumption)))) | (refine AH.le_putM ?_ (by first | assumption | exact (AH.mp_putM_ne _ _ (by assumption)).trans (by assumption) | (simp only [AH.mp_put, AH.mp_setTok] at *; assumption))))
  · refine AV.le.stC ?_
    simp only [Cr.cs, onlyC, List.length_map]
    exact .cons (AV.le.refl _) (.cons AV.le.unk (.cons (AV.le.refl _) .nil))

/-! ### Which hoards are needed -/
def rI (k : Nat) : List Int := (List.range k).map fun i : Nat => (i : Int)
theorem rI_succ (k : Nat) : rI (k + 1) = rI k ++ [(k : Int)] := by simp [rI, List.range_succ]
theorem rI_len (k : Nat) : (rI k).length = k := by simp [rI]
theorem rI_get {k i : Nat} (h : i < k) : (rI k).getD i 0 = i := by simp [rI, List.getD, h]
/-- Of the hoards below k and those in rest, which are left. -/
def need (c : Cr) : Nat → List Int → List Int
  | 0, rest => rest
  | k + 1, rest => if Ok (onlyC c (rI k ++ rest)) then need c k ((k : Int) :: rest) else need c k rest
def needV (c : Cr) : AV := if VC c then (if Ok c then .tup [.sl true 0 [] .full, I 7] else .tup [.sl (decide (c.ho.length = 0)) (need c c.ho.length []).length (i64s (need c c.ho.length [])) .unk, I 0]) else .tup [.sl true 0 [] .full, I 1]
/-- Places of hoards. -/
def Pl (c : Cr) (l : List Int) : Prop := ∀ i, i < l.length → 0 ≤ l.getD i 0 ∧ l.getD i 0 < c.ho.length
theorem only_vc {c : Cr} (hv : VC c) {l : List Int} (hl : l.length ≤ 6) (hp : Pl c l) : VC (onlyC c l) := by
  refine ⟨⟨hv.1.1, by simp [onlyC]; exact hl, hv.1.2.2⟩, hv.2.1, fun i hi => ?_, hv.2.2.2⟩
  have hi' : i < l.length := by simpa [onlyC] using hi
  have hq := hp i hi'
  have e : (onlyC c l).ho.getD i dH = c.ho.getD (l.getD i 0).toNat dH := by simp [onlyC, List.getD, hi']
  rw [e]
  exact hv.2.2.1 _ (by omega)
theorem erase_mid (k : Nat) (rest : List Int) : (rI (k + 1) ++ rest).eraseIdx k = rI k ++ rest := by
  rw [List.eraseIdx_eq_take_drop_succ, rI_succ, List.append_assoc, List.take_append_of_le_length (by rw [rI_len]; exact Nat.le_refl _), List.take_of_length_le (by rw [rI_len]; exact Nat.le_refl _)]
  congr 1
  rw [List.drop_append, List.drop_of_length_le (by rw [rI_len]; omega), rI_len]
  simp
theorem ok_congr {c c' : Cr} (h1 : c.ty = c'.ty) (h2 : c.ho = c'.ho) (h3 : c.ga = c'.ga) : Ok c = Ok c' := by
  have e1 : ∀ n, tyC c n = tyC c' n := fun n => by
    induction n with
    | zero => rfl
    | succ n ih => simp only [tyC, ih, h1]
  have e2 : ∀ n, hoC c n = hoC c' n := fun n => by
    induction n with
    | zero => rfl
    | succ n ih => simp only [hoC, ih, h1, h2]
  have e3 : ∀ n, gaC c n = gaC c' n := fun n => by
    induction n with
    | zero => rfl
    | succ n ih => simp only [gaC, ih, h3]
  simp only [Ok, Mf, Mi, allC, nV, e1, e2, e3, h1, h2, h3]
theorem only_tok (c : Cr) (l : List Int) (tl : Tail) : Ok { c with nlH := decide (l.length = 0), ho := l.map fun i => c.ho.getD i.toNat dH, tlH := tl } = Ok (onlyC c l) := ok_congr rfl rfl rfl
theorem only_tokV (c : Cr) (l : List Int) (tl : Tail) : VC { c with nlH := decide (l.length = 0), ho := l.map fun i => c.ho.getD i.toNat dH, tlH := tl } = VC (onlyC c l) := rfl
theorem pl_less {c : Cr} {k : Nat} {rest : List Int} (h : Pl c (rI (k + 1) ++ rest)) : Pl c (rI k ++ rest) := by
  intro i hi
  rw [List.length_append, rI_len] at hi
  by_cases h1 : i < k
  · have := h i (by rw [List.length_append, rI_len]; omega)
    rw [rI_succ] at this
    simp only [List.getD, List.getElem?_append, rI_len, List.length_append, List.length_singleton] at this ⊢
    rw [if_pos (by omega), if_pos h1] at this
    rw [if_pos h1]; exact this
  · have := h (i + 1) (by rw [List.length_append, rI_len]; omega)
    simp only [List.getD, List.getElem?_append, rI_len] at this ⊢
    rw [if_neg (by omega), show i + 1 - (k + 1) = i - k by omega] at this
    rw [if_neg h1]; exact this

theorem r_dating_Needed (c : Cr) (h : AH) : RCall Try.prog n_dating_Needed [.st c.cs] h (needV c) := by
  refine RCall.of hm cF_dating_Needed (by simp [g_dating_Needed]) fun hw h' hl => ?_
  obtain ⟨hxT, hxH, hxG⟩ := cr_lens (n := 1) (hw _ (.head _))
  simp only [Cr.cs, F_dating_Needed, g_dating_Needed, go_sem, reduceIte, Nat.reduceEqDiff, Nat.reduceAdd, Nat.reduceMul, Nat.reduceSub, reduceCtorEq, Nat.reduceLeDiff, Nat.reduceLT, Int.reduceLT, Int.reduceLE, Int.reduceToNat, Int.reduceAdd, Int.reduceSub, Int.reduceNeg, Int.reduceMul, Int.reduceEq, ← Bool.decide_and, ← Bool.decide_or, ↓tq_n, ↓tq_e, ↓tq_r, ↓bq_n, ↓bq_e, ↓bq_r, ↓rq_n, ↓rq_r, ↓rq_e]
  refine CallG.mk (r_dating_Valid c _) ?_
  unfold needV
  by_cases h1 : VC c
  case neg =>
    simp only [decide_eq_false h1, F_dating_Needed, g_dating_Needed, go_sem, reduceIte, Nat.reduceEqDiff, Nat.reduceAdd, Nat.reduceMul, Nat.reduceSub, reduceCtorEq, Nat.reduceLeDiff, Nat.reduceLT, Int.reduceLT, Int.reduceLE, Int.reduceToNat, Int.reduceAdd, Int.reduceSub, Int.reduceNeg, Int.reduceMul, Int.reduceEq, ← Bool.decide_and, ← Bool.decide_or, ↓tq_n, ↓tq_e, ↓tq_r, ↓bq_n, ↓bq_e, ↓bq_r, ↓rq_n, ↓rq_r, ↓rq_e]
    exact ret_ok (by simp [h1])
  simp only [decide_eq_true h1, F_dating_Needed, g_dating_Needed, go_sem, reduceIte, Nat.reduceEqDiff, Nat.reduceAdd, Nat.reduceMul, Nat.reduceSub, reduceCtorEq, Nat.reduceLeDiff, Nat.reduceLT, Int.reduceLT, Int.reduceLE, Int.reduceToNat, Int.reduceAdd, Int.reduceSub, Int.reduceNeg, Int.reduceMul, Int.reduceEq, ← Bool.decide_and, ← Bool.decide_or, ↓tq_n, ↓tq_e, ↓tq_r, ↓bq_n, ↓bq_e, ↓bq_r, ↓rq_n, ↓rq_r, ↓rq_e]
  refine CallG.mk (r_dating_solve c h1 _) ?_
  by_cases h2 : Ok c
  case pos =>
    simp only [decide_eq_true h2, F_dating_Needed, g_dating_Needed, go_sem, reduceIte, Nat.reduceEqDiff, Nat.reduceAdd, Nat.reduceMul, Nat.reduceSub, reduceCtorEq, Nat.reduceLeDiff, Nat.reduceLT, Int.reduceLT, Int.reduceLE, Int.reduceToNat, Int.reduceAdd, Int.reduceSub, Int.reduceNeg, Int.reduceMul, Int.reduceEq, ← Bool.decide_and, ← Bool.decide_or, ↓tq_n, ↓tq_e, ↓tq_r, ↓bq_n, ↓bq_e, ↓bq_r, ↓rq_n, ↓rq_r, ↓rq_e]
    exact ret_ok (by simp [h1, h2])
  simp only [decide_eq_false h2, F_dating_Needed, g_dating_Needed, go_sem, reduceIte, Nat.reduceEqDiff, Nat.reduceAdd, Nat.reduceMul, Nat.reduceSub, reduceCtorEq, Nat.reduceLeDiff, Nat.reduceLT, Int.reduceLT, Int.reduceLE, Int.reduceToNat, Int.reduceAdd, Int.reduceSub, Int.reduceNeg, Int.reduceMul, Int.reduceEq, ← Bool.decide_and, ← Bool.decide_or, ↓tq_n, ↓tq_e, ↓tq_r, ↓bq_n, ↓bq_e, ↓bq_r, ↓rq_n, ↓rq_r, ↓rq_e]
  have b6 := h1.1.2.1
  obtain ⟨n, hn⟩ : ∃ n, n = c.ho.length := ⟨_, rfl⟩
  refine awp_tok 6 1 (nl := true) (n := 0) (cs := []) rfl fun t ht => ?_
  refine awp_loop (fun i : Nat => [(1, .sptr c.cs), (6, gl (i64s (rI i)) i (.tok t)), (26, I n), (27, I i)]) (fun i => h'.setTok t i 1) (fun i => i ≤ n) (fun i => n - i) 0 (Nat.zero_le _) (by rw [hn]; exact (GStep.forget (by repeat' first | exact EnvLe.nil _ | refine EnvLe.cons (AV.le.of_eq rfl) ?_ | refine EnvLe.cons (AV.le.undef _) ?_ | refine EnvLe.cons AV.le.unk ?_) (by repeat' first | exact AH.le.refl _ | assumption | (refine AH.le_put ?_ (by first | assumption | exact (AH.blk_put_ne _ _ (by assumption)).trans (by assumption) | exact AH.none_put (by assumption) | exact AH.none_put (AH.none_put (by assumption)) | (simp only [AH.blk_setTok, AH.tok_put] at *; first | assumption | exact AH.none_put (by assumption)))) | (refine AH.le_setTok ?_ (by first | assumption | exact (AH.blk_put_ne _ _ (by assumption)).trans (by assumption) | exact AH.none_put (by assumption) | exact AH.none_put (AH.none_put (by assumption)) | (simp only [AH.blk_setTok, AH.tok_put] at *; first | assumption | exact AH.none_put (by assumption)))) | (refine AH.le_putM ?_ (by first | assumption | exact (AH.mp_putM_ne _ _ (by assumption)).trans (by assumption) | (simp only [AH.mp_put, AH.mp_setTok] at *; assumption)))))) fun i hi => .of_vg hm ?_
  by_cases h3 : i < n
  · have hc3 : (i : Int) < (n : Int) := by omega
    simp only [hc3, F_dating_Needed, g_dating_Needed, go_sem, reduceIte, Nat.reduceEqDiff, Nat.reduceAdd, Nat.reduceMul, Nat.reduceSub, reduceCtorEq, Nat.reduceLeDiff, Nat.reduceLT, Int.reduceLT, Int.reduceLE, Int.reduceToNat, Int.reduceAdd, Int.reduceSub, Int.reduceNeg, Int.reduceMul, Int.reduceEq, ← Bool.decide_and, ← Bool.decide_or, ↓tq_n, ↓tq_e, ↓tq_r, ↓bq_n, ↓bq_e, ↓bq_r, ↓rq_n, ↓rq_r, ↓rq_e]
    refine ⟨by rw [i64s_len, rI_len], by omega, by omega, by rw [inR64]; omega, i + 1, by omega, by omega, ?_⟩
    rw [rI_succ, i64s_append]
    exact (GStep.forget (by repeat' first | exact EnvLe.nil _ | refine EnvLe.cons (AV.le.of_eq rfl) ?_ | refine EnvLe.cons (AV.le.undef _) ?_ | refine EnvLe.cons AV.le.unk ?_) (by repeat' first | exact AH.le.refl _ | assumption | (refine AH.le_put ?_ (by first | assumption | exact (AH.blk_put_ne _ _ (by assumption)).trans (by assumption) | exact AH.none_put (by assumption) | exact AH.none_put (AH.none_put (by assumption)) | (simp only [AH.blk_setTok, AH.tok_put] at *; first | assumption | exact AH.none_put (by assumption)))) | (refine AH.le_setTok ?_ (by first | assumption | exact (AH.blk_put_ne _ _ (by assumption)).trans (by assumption) | exact AH.none_put (by assumption) | exact AH.none_put (AH.none_put (by assumption)) | (simp only [AH.blk_setTok, AH.tok_put] at *; first | assumption | exact AH.none_put (by assumption)))) | (refine AH.le_putM ?_ (by first | assumption | exact (AH.mp_putM_ne _ _ (by assumption)).trans (by assumption) | (simp only [AH.mp_put, AH.mp_setTok] at *; assumption)))))
  have h3 : i = n := by omega
  subst h3
  simp only [F_dating_Needed, g_dating_Needed, go_sem, reduceIte, Nat.reduceEqDiff, Nat.reduceAdd, Nat.reduceMul, Nat.reduceSub, reduceCtorEq, Nat.reduceLeDiff, Nat.reduceLT, Int.reduceLT, Int.reduceLE, Int.reduceToNat, Int.reduceAdd, Int.reduceSub, Int.reduceNeg, Int.reduceMul, Int.reduceEq, ← Bool.decide_and, ← Bool.decide_or, ↓tq_n, ↓tq_e, ↓tq_r, ↓bq_n, ↓bq_e, ↓bq_r, ↓rq_n, ↓rq_r, ↓rq_e]
  refine ⟨by rw [inR64]; omega, ?_⟩
  clear hi
  refine awp_loop (fun x : Nat × List Int => [(1, .sptr c.cs), (6, .sl (decide (c.ho.length = 0)) (x.1 + x.2.length) (i64s (rI x.1 ++ x.2)) .unk), (8, I ((x.1 : Int) - 1))]) (fun _ => h')
    (fun x => x.1 + x.2.length ≤ i ∧ Pl c (rI x.1 ++ x.2) ∧ need c x.1 x.2 = need c i []) (fun x => x.1) (i, []) ⟨by simp, ?_, rfl⟩ ?_ fun x hx => .of_vg hm ?_
  · intro j hj
    simp only [List.append_nil] at hj ⊢
    rw [rI_len] at hj
    rw [rI_get hj]; omega
  · rw [← hn]
    simp only [List.append_nil, List.length_nil, Nat.add_zero]
    exact (GStep.forget (by repeat' first | exact EnvLe.nil _ | refine EnvLe.cons (AV.le.of_eq rfl) ?_ | refine EnvLe.cons (AV.le.undef _) ?_ | refine EnvLe.cons AV.le.unk ?_) (by repeat' first | exact AH.le.refl _ | assumption | (refine AH.le_put ?_ (by first | assumption | exact (AH.blk_put_ne _ _ (by assumption)).trans (by assumption) | exact AH.none_put (by assumption) | exact AH.none_put (AH.none_put (by assumption)) | (simp only [AH.blk_setTok, AH.tok_put] at *; first | assumption | exact AH.none_put (by assumption)))) | (refine AH.le_setTok ?_ (by first | assumption | exact (AH.blk_put_ne _ _ (by assumption)).trans (by assumption) | exact AH.none_put (by assumption) | exact AH.none_put (AH.none_put (by assumption)) | (simp only [AH.blk_setTok, AH.tok_put] at *; first | assumption | exact AH.none_put (by assumption)))) | (refine AH.le_putM ?_ (by first | assumption | exact (AH.mp_putM_ne _ _ (by assumption)).trans (by assumption) | (simp only [AH.mp_put, AH.mp_setTok] at *; assumption)))))
  obtain ⟨k, rest⟩ := x
  obtain ⟨hk1, hk2, hk3⟩ := hx
  simp only at hk1 hk2 hk3 ⊢
  cases k with
  | zero =>
    have hc0 : ¬ (0 : Int) ≤ ((0 : Nat) : Int) - 1 := by omega
    simp only [hc0, F_dating_Needed, g_dating_Needed, go_sem, reduceIte, Nat.reduceEqDiff, Nat.reduceAdd, Nat.reduceMul, Nat.reduceSub, reduceCtorEq, Nat.reduceLeDiff, Nat.reduceLT, Int.reduceLT, Int.reduceLE, Int.reduceToNat, Int.reduceAdd, Int.reduceSub, Int.reduceNeg, Int.reduceMul, Int.reduceEq, ← Bool.decide_and, ← Bool.decide_or, ↓tq_n, ↓tq_e, ↓tq_r, ↓bq_n, ↓bq_e, ↓bq_r, ↓rq_n, ↓rq_r, ↓rq_e]
    refine ret_ok ?_
    simp only [need] at hk3
    rw [if_pos h1, if_neg h2, ← hn, ← hk3]
    simp [rI]
  | succ k =>
    have hc0 : (0 : Int) ≤ (k : Int) := by omega
    have hck : (((k + 1 : Nat) : Int) - 1) = (k : Int) := by omega
    have hpos : c.ho.length ≠ 0 := by omega
    have hxl : (rI (k + 1) ++ rest).length = k + 1 + rest.length := by rw [List.length_append, rI_len]
    have hll : (rI k ++ rest).length = k + rest.length := by rw [List.length_append, rI_len]
    have hik : InR .i64 ((k : Int) + 1) := by rw [inR64]; omega
    have hik1 : InR .i64 ((k : Int) - 1) := by rw [inR64]; omega
    have hik2 : InR .i64 ((k : Int)) := by rw [inR64]; omega
    simp only [hck, hc0, decide_eq_false hpos, F_dating_Needed, g_dating_Needed, go_sem, reduceIte, Nat.reduceEqDiff, Nat.reduceAdd, Nat.reduceMul, Nat.reduceSub, reduceCtorEq, Nat.reduceLeDiff, Nat.reduceLT, Int.reduceLT, Int.reduceLE, Int.reduceToNat, Int.reduceAdd, Int.reduceSub, Int.reduceNeg, Int.reduceMul, Int.reduceEq, ← Bool.decide_and, ← Bool.decide_or, ↓tq_n, ↓tq_e, ↓tq_r, ↓bq_n, ↓bq_e, ↓bq_r, ↓rq_n, ↓rq_r, ↓rq_e]
    refine CallS.mk (by rw [← hxl]; exact s_slices_Clone_int (rI (k + 1) ++ rest) .unk (by omega) (by omega) _) fun r H hr => ?_
    obtain ⟨b, q, hq, hb, rfl, rfl⟩ := hr
    simp only [hik, F_dating_Needed, g_dating_Needed, go_sem, reduceIte, Nat.reduceEqDiff, Nat.reduceAdd, Nat.reduceMul, Nat.reduceSub, reduceCtorEq, Nat.reduceLeDiff, Nat.reduceLT, Int.reduceLT, Int.reduceLE, Int.reduceToNat, Int.reduceAdd, Int.reduceSub, Int.reduceNeg, Int.reduceMul, Int.reduceEq, ← Bool.decide_and, ← Bool.decide_or, ↓tq_n, ↓tq_e, ↓tq_r, ↓bq_n, ↓bq_e, ↓bq_r, ↓rq_n, ↓rq_r, ↓rq_e]
    refine CallS.mk (s_slices_Delete_int (rI (k + 1) ++ rest) hq (AH.blk_put _ _ _) (by omega) (i := k) (by omega)) fun r H hr => ?_
    obtain ⟨rfl, rfl⟩ := hr
    rw [AH.del_put hb, erase_mid, show (rI (k + 1) ++ rest).length - 1 = (rI k ++ rest).length by omega]
    have hp2 := pl_less hk2
    generalize hless : rI k ++ rest = l at *
    simp only [Cr.cs, F_dating_Needed, g_dating_Needed, go_sem, reduceIte, Nat.reduceEqDiff, Nat.reduceAdd, Nat.reduceMul, Nat.reduceSub, reduceCtorEq, Nat.reduceLeDiff, Nat.reduceLT, Int.reduceLT, Int.reduceLE, Int.reduceToNat, Int.reduceAdd, Int.reduceSub, Int.reduceNeg, Int.reduceMul, Int.reduceEq, ← Bool.decide_and, ← Bool.decide_or, ↓tq_n, ↓tq_e, ↓tq_r, ↓bq_n, ↓bq_e, ↓bq_r, ↓rq_n, ↓rq_r, ↓rq_e]
    refine AllocG.mk fun b10 hb10 => ?_
    simp only [F_dating_Needed, g_dating_Needed, go_sem, reduceIte, Nat.reduceEqDiff, Nat.reduceAdd, Nat.reduceMul, Nat.reduceSub, reduceCtorEq, Nat.reduceLeDiff, Nat.reduceLT, Int.reduceLT, Int.reduceLE, Int.reduceToNat, Int.reduceAdd, Int.reduceSub, Int.reduceNeg, Int.reduceMul, Int.reduceEq, ← Bool.decide_and, ← Bool.decide_or, ↓tq_n, ↓tq_e, ↓tq_r, ↓bq_n, ↓bq_e, ↓bq_r, ↓rq_n, ↓rq_r, ↓rq_e]
    refine awp_tokB b10 1 4 (nl := true) (n := 0) (cs := []) (AH.blk_put _ _ _) rfl fun t2 ht2 => ?_
    obtain ⟨F, hF⟩ : ∃ F : Nat → List AV, F = fun i => [.sl c.nlT c.ty.length (prs c.ty) c.tlT, gl (((l.take i).map fun i => c.ho.getD i.toNat dH).flatMap Hd.cs) i (.tok t2), .sl c.nlG c.ga.length (trs c.ga) c.tlG] := ⟨_, rfl⟩
    refine awp_loop (fun j : Nat => [(1, .sptr c.cs), (6, .sl false (k + 1 + rest.length) (i64s (rI (k + 1) ++ rest)) .unk), (8, I k), (9, .sl false l.length (i64s l) .unk), (10, .ptr b10 0), (53, .sl false l.length (i64s l) .unk), (54, I l.length), (55, I j)])
      (fun j => (h'.put b10 (F j)).setTok t2 j 4) (fun j => j ≤ l.length) (fun j => l.length - j) 0 (Nat.zero_le _) ?_ fun j hj => .of_vg hm ?_
    · rw [hF]
      rw [AH.put_put]
      exact (GStep.forget (by repeat' first | exact EnvLe.nil _ | refine EnvLe.cons (AV.le.of_eq rfl) ?_ | refine EnvLe.cons (AV.le.undef _) ?_ | refine EnvLe.cons AV.le.unk ?_) (by repeat' first | exact AH.le.refl _ | assumption | (refine AH.le_put ?_ (by first | assumption | exact (AH.blk_put_ne _ _ (by assumption)).trans (by assumption) | exact AH.none_put (by assumption) | exact AH.none_put (AH.none_put (by assumption)) | (simp only [AH.blk_setTok, AH.tok_put] at *; first | assumption | exact AH.none_put (by assumption)))) | (refine AH.le_setTok ?_ (by first | assumption | exact (AH.blk_put_ne _ _ (by assumption)).trans (by assumption) | exact AH.none_put (by assumption) | exact AH.none_put (AH.none_put (by assumption)) | (simp only [AH.blk_setTok, AH.tok_put] at *; first | assumption | exact AH.none_put (by assumption)))) | (refine AH.le_putM ?_ (by first | assumption | exact (AH.mp_putM_ne _ _ (by assumption)).trans (by assumption) | (simp only [AH.mp_put, AH.mp_setTok] at *; assumption)))))
    by_cases h4 : j < l.length
    · have hc3 : (j : Int) < (l.length : Int) := by omega
      obtain ⟨p, hp⟩ : ∃ p : Nat, l.getD j 0 = p := ⟨(l.getD j 0).toNat, by have := (hp2 j h4).1; omega⟩
      have hjl := (hp2 j h4).2
      rw [hp] at hjl
      have hjn : p < c.ho.length := by omega
      have e1 := take_map_succ (fun i => c.ho.getD i.toNat dH) 0 h4
      rw [hp] at e1
      simp only [Int.toNat_natCast] at e1
      have hlen : (((l.take j).map fun i => c.ho.getD i.toNat dH).flatMap Hd.cs).length = j * 4 := by rw [flat_len hd_len]; simp; omega
      have hFi : F j = [.sl c.nlT c.ty.length (prs c.ty) c.tlT, gl (((l.take j).map fun i => c.ho.getD i.toNat dH).flatMap Hd.cs) j (.tok t2), .sl c.nlG c.ga.length (trs c.ga) c.tlG] := by rw [hF]
      have hFs : F (j + 1) = [.sl c.nlT c.ty.length (prs c.ty) c.tlT, gl (((l.take j).map fun i => c.ho.getD i.toNat dH).flatMap Hd.cs ++ (c.ho.getD p dH).cs) (j + 1) (.tok t2), .sl c.nlG c.ga.length (trs c.ga) c.tlG] := by
        rw [hF]
        simp only [e1, List.flatMap_append, List.flatMap_singleton]
      simp only [Cr.cs, hc3, i64s_drop h4, hp, hjl, hds_drop hjn, hFi, F_dating_Needed, g_dating_Needed, go_sem, reduceIte, Nat.reduceEqDiff, Nat.reduceAdd, Nat.reduceMul, Nat.reduceSub, reduceCtorEq, Nat.reduceLeDiff, Nat.reduceLT, Int.reduceLT, Int.reduceLE, Int.reduceToNat, Int.reduceAdd, Int.reduceSub, Int.reduceNeg, Int.reduceMul, Int.reduceEq, ← Bool.decide_and, ← Bool.decide_or, ↓tq_n, ↓tq_e, ↓tq_r, ↓bq_n, ↓bq_e, ↓bq_r, ↓rq_n, ↓rq_r, ↓rq_e]
      refine ⟨hlen, by omega, by omega, by rw [inR64]; omega, j + 1, by omega, by omega, ?_⟩
      rw [hFs]
      simp only [Hd.cs]
      exact (GStep.forget (by repeat' first | exact EnvLe.nil _ | refine EnvLe.cons (AV.le.of_eq rfl) ?_ | refine EnvLe.cons (AV.le.undef _) ?_ | refine EnvLe.cons AV.le.unk ?_) (by repeat' first | exact AH.le.refl _ | assumption | (refine AH.le_put ?_ (by first | assumption | exact (AH.blk_put_ne _ _ (by assumption)).trans (by assumption) | exact AH.none_put (by assumption) | exact AH.none_put (AH.none_put (by assumption)) | (simp only [AH.blk_setTok, AH.tok_put] at *; first | assumption | exact AH.none_put (by assumption)))) | (refine AH.le_setTok ?_ (by first | assumption | exact (AH.blk_put_ne _ _ (by assumption)).trans (by assumption) | exact AH.none_put (by assumption) | exact AH.none_put (AH.none_put (by assumption)) | (simp only [AH.blk_setTok, AH.tok_put] at *; first | assumption | exact AH.none_put (by assumption)))) | (refine AH.le_putM ?_ (by first | assumption | exact (AH.mp_putM_ne _ _ (by assumption)).trans (by assumption) | (simp only [AH.mp_put, AH.mp_setTok] at *; assumption)))))
    have h4 : j = l.length := by omega
    subst h4
    have hFi : F l.length = [.sl c.nlT c.ty.length (prs c.ty) c.tlT, gl ((l.map fun i => c.ho.getD i.toNat dH).flatMap Hd.cs) l.length (.tok t2), .sl c.nlG c.ga.length (trs c.ga) c.tlG] := by
      rw [hF]
      simp only [List.take_length]
    simp only [hFi, F_dating_Needed, g_dating_Needed, go_sem, reduceIte, Nat.reduceEqDiff, Nat.reduceAdd, Nat.reduceMul, Nat.reduceSub, reduceCtorEq, Nat.reduceLeDiff, Nat.reduceLT, Int.reduceLT, Int.reduceLE, Int.reduceToNat, Int.reduceAdd, Int.reduceSub, Int.reduceNeg, Int.reduceMul, Int.reduceEq, ← Bool.decide_and, ← Bool.decide_or, ↓tq_n, ↓tq_e, ↓tq_r, ↓bq_n, ↓bq_e, ↓bq_r, ↓rq_n, ↓rq_r, ↓rq_e]
    have hs := r_dating_solve { c with nlH := decide (l.length = 0), ho := l.map fun i => c.ho.getD i.toNat dH, tlH := .tok t2 } (by rw [only_tokV]; exact only_vc h1 (by omega) hp2) ((h'.put b10 (F l.length)).setTok t2 l.length 4)
    rw [hFi] at hs
    refine CallG.mk (by have := hs; simp only [Cr.cs, List.length_map] at this; exact this) ?_
    have hns : need c (k + 1) rest = if Ok (onlyC c l) then need c k ((k : Int) :: rest) else need c k rest := by rw [← hless]; rfl
    by_cases h5 : Ok (onlyC c l)
    · have e5 : decide (Ok { c with nlH := decide (l.length = 0), ho := l.map fun i => c.ho.getD i.toNat dH, tlH := .tok t2 }) = true := decide_eq_true (by rw [only_tok]; exact h5)
      rw [if_pos h5] at hns
      simp only [e5, F_dating_Needed, g_dating_Needed, go_sem, reduceIte, Nat.reduceEqDiff, Nat.reduceAdd, Nat.reduceMul, Nat.reduceSub, reduceCtorEq, Nat.reduceLeDiff, Nat.reduceLT, Int.reduceLT, Int.reduceLE, Int.reduceToNat, Int.reduceAdd, Int.reduceSub, Int.reduceNeg, Int.reduceMul, Int.reduceEq, ← Bool.decide_and, ← Bool.decide_or, ↓tq_n, ↓tq_e, ↓tq_r, ↓bq_n, ↓bq_e, ↓bq_r, ↓rq_n, ↓rq_r, ↓rq_e]
      have e6 : rI k ++ (k : Int) :: rest = rI (k + 1) ++ rest := by rw [rI_succ]; simp
      refine ⟨hik1, (k, (k : Int) :: rest), ⟨by simp only [List.length_cons]; omega, by rw [e6]; exact hk2, by rw [← hk3, hns]⟩, by simp only; omega, ?_⟩
      simp only [e6, List.length_cons, show k + (rest.length + 1) = k + 1 + rest.length by omega, decide_eq_false hpos]
      exact (GStep.forget (by repeat' first | exact EnvLe.nil _ | refine EnvLe.cons (AV.le.of_eq rfl) ?_ | refine EnvLe.cons (AV.le.undef _) ?_ | refine EnvLe.cons AV.le.unk ?_) (by repeat' first | exact AH.le.refl _ | assumption | (refine AH.le_put ?_ (by first | assumption | exact (AH.blk_put_ne _ _ (by assumption)).trans (by assumption) | exact AH.none_put (by assumption) | exact AH.none_put (AH.none_put (by assumption)) | (simp only [AH.blk_setTok, AH.tok_put] at *; first | assumption | exact AH.none_put (by assumption)))) | (refine AH.le_setTok ?_ (by first | assumption | exact (AH.blk_put_ne _ _ (by assumption)).trans (by assumption) | exact AH.none_put (by assumption) | exact AH.none_put (AH.none_put (by assumption)) | (simp only [AH.blk_setTok, AH.tok_put] at *; first | assumption | exact AH.none_put (by assumption)))) | (refine AH.le_putM ?_ (by first | assumption | exact (AH.mp_putM_ne _ _ (by assumption)).trans (by assumption) | (simp only [AH.mp_put, AH.mp_setTok] at *; assumption)))))
    · have e5 : decide (Ok { c with nlH := decide (l.length = 0), ho := l.map fun i => c.ho.getD i.toNat dH, tlH := .tok t2 }) = false := decide_eq_false (by rw [only_tok]; exact h5)
      rw [if_neg h5] at hns
      simp only [e5, F_dating_Needed, g_dating_Needed, go_sem, reduceIte, Nat.reduceEqDiff, Nat.reduceAdd, Nat.reduceMul, Nat.reduceSub, reduceCtorEq, Nat.reduceLeDiff, Nat.reduceLT, Int.reduceLT, Int.reduceLE, Int.reduceToNat, Int.reduceAdd, Int.reduceSub, Int.reduceNeg, Int.reduceMul, Int.reduceEq, ← Bool.decide_and, ← Bool.decide_or, ↓tq_n, ↓tq_e, ↓tq_r, ↓bq_n, ↓bq_e, ↓bq_r, ↓rq_n, ↓rq_r, ↓rq_e]
      refine ⟨hik1, (k, rest), ⟨by simp only; omega, by rw [hless]; exact hp2, by rw [← hk3, hns]⟩, by simp only; omega, ?_⟩
      simp only [hless, ← hll, decide_eq_false hpos]
      exact (GStep.forget (by repeat' first | exact EnvLe.nil _ | refine EnvLe.cons (AV.le.of_eq rfl) ?_ | refine EnvLe.cons (AV.le.undef _) ?_ | refine EnvLe.cons AV.le.unk ?_) (by repeat' first | exact AH.le.refl _ | assumption | (refine AH.le_put ?_ (by first | assumption | exact (AH.blk_put_ne _ _ (by assumption)).trans (by assumption) | exact AH.none_put (by assumption) | exact AH.none_put (AH.none_put (by assumption)) | (simp only [AH.blk_setTok, AH.tok_put] at *; first | assumption | exact AH.none_put (by assumption)))) | (refine AH.le_setTok ?_ (by first | assumption | exact (AH.blk_put_ne _ _ (by assumption)).trans (by assumption) | exact AH.none_put (by assumption) | exact AH.none_put (AH.none_put (by assumption)) | (simp only [AH.blk_setTok, AH.tok_put] at *; first | assumption | exact AH.none_put (by assumption)))) | (refine AH.le_putM ?_ (by first | assumption | exact (AH.mp_putM_ne _ _ (by assumption)).trans (by assumption) | (simp only [AH.mp_put, AH.mp_setTok] at *; assumption)))))
end Go.Proofs.Ytcicklmlbdfneaa
