/- Calls of functions of this seat's program: the reference's earliest dating. No condition. -/
import Derived.Test.YtcicklmlbdfneaaD12
namespace Go.Proofs.Ytcicklmlbdfneaa
open Go Go.Abs
set_option linter.unusedSimpArgs false
set_option linter.unusedVariables false
set_option maxRecDepth 20000

theorem take_add {xs : List Int} {i : Nat} (h : i < xs.length) : xs.take (i + 1) = xs.take i ++ [xs.getD i 0] := by
  rw [List.take_add_one]; simp [List.getD, h]

set_option maxHeartbeats 4000000 in
theorem r_ref_Some (c : Cr) (h : AH) : RCall Try.prog n_ref_Some [.st c.cs] h (if VC c then (if Ok c then .tup [asl (loT c), asl (loH c), I 0] else .tup [.sl true 0 [] .full, .sl true 0 [] .full, I 10]) else .tup [.sl true 0 [] .full, .sl true 0 [] .full, I 1]) := by
  refine RCall.of hm cF_ref_Some (by simp [g_ref_Some]) fun hw h' hl => ?_
  obtain ⟨hxT, hxH, hxG⟩ := cr_lens (n := 1) (hw _ (.head _))
  simp only [Cr.cs, F_ref_Some, g_ref_Some, go_sem, reduceIte, Nat.reduceEqDiff, Nat.reduceAdd, Nat.reduceMul, Nat.reduceSub, reduceCtorEq, Nat.reduceLeDiff, Nat.reduceLT, Int.reduceLT, Int.reduceLE, Int.reduceToNat, Int.reduceAdd, Int.reduceSub, Int.reduceNeg, Int.reduceMul, Int.reduceEq, ← Bool.decide_and, ← Bool.decide_or, ↓tq_n, ↓tq_e, ↓tq_r, ↓bq_n, ↓bq_e, ↓bq_r, ↓rq_n, ↓rq_r, ↓rq_e]
  refine AllocG.mk fun b1 hb1 => ?_
  simp only [F_ref_Some, g_ref_Some, go_sem, reduceIte, Nat.reduceEqDiff, Nat.reduceAdd, Nat.reduceMul, Nat.reduceSub, reduceCtorEq, Nat.reduceLeDiff, Nat.reduceLT, Int.reduceLT, Int.reduceLE, Int.reduceToNat, Int.reduceAdd, Int.reduceSub, Int.reduceNeg, Int.reduceMul, Int.reduceEq, ← Bool.decide_and, ← Bool.decide_or, ↓tq_n, ↓tq_e, ↓tq_r, ↓bq_n, ↓bq_e, ↓bq_r, ↓rq_n, ↓rq_r, ↓rq_e]
  generalize hH : h'.put b1 [AV.sl c.nlT c.ty.length (prs c.ty) c.tlT, AV.sl c.nlH c.ho.length (hds c.ho) c.tlH, AV.sl c.nlG c.ga.length (trs c.ga) c.tlG] = H at *
  have Hb : H.blk b1 = some [AV.sl c.nlT c.ty.length (prs c.ty) c.tlT, AV.sl c.nlH c.ho.length (hds c.ho) c.tlH, AV.sl c.nlG c.ga.length (trs c.ga) c.tlG] := by rw [← hH, AH.blk_put]
  have Hle : h'.le H := by rw [← hH]; exact (by repeat' first | exact AH.le.refl _ | assumption | (refine AH.le_put ?_ (by first | assumption | exact (AH.blk_put_ne _ _ (by assumption)).trans (by assumption) | exact AH.none_put (by assumption) | exact AH.none_put (AH.none_put (by assumption)) | (simp only [AH.blk_setTok, AH.tok_put] at *; first | assumption | exact AH.none_put (by assumption)))) | (refine AH.le_setTok ?_ (by first | assumption | exact (AH.blk_put_ne _ _ (by assumption)).trans (by assumption) | exact AH.none_put (by assumption) | exact AH.none_put (AH.none_put (by assumption)) | (simp only [AH.blk_setTok, AH.tok_put] at *; first | assumption | exact AH.none_put (by assumption)))) | (refine AH.le_putM ?_ (by first | assumption | exact (AH.mp_putM_ne _ _ (by assumption)).trans (by assumption) | (simp only [AH.mp_put, AH.mp_setTok] at *; assumption))))
  clear hH
  refine CallG.mk (r_ref_Valid c _) ?_
  simp only [F_ref_Some, g_ref_Some, go_sem, reduceIte, Nat.reduceEqDiff, Nat.reduceAdd, Nat.reduceMul, Nat.reduceSub, reduceCtorEq, Nat.reduceLeDiff, Nat.reduceLT, Int.reduceLT, Int.reduceLE, Int.reduceToNat, Int.reduceAdd, Int.reduceSub, Int.reduceNeg, Int.reduceMul, Int.reduceEq, ← Bool.decide_and, ← Bool.decide_or, ↓tq_n, ↓tq_e, ↓tq_r, ↓bq_n, ↓bq_e, ↓bq_r, ↓rq_n, ↓rq_r, ↓rq_e]
  refine ⟨fun h1 => ?_, fun h1 => ?_⟩
  · refine ret_hb Hle ?_
    rw [if_neg h1]
  rw [if_pos h1]
  obtain ⟨b8, b6, b16⟩ := h1.1
  have lt0 : (t0 c).length = c.ty.length := by simp [t0]
  have lh0 : (h0 c).length = c.ho.length := by simp [h0]
  -- the types' beginnings
  refine awp_loop (α := Nat × AV × AH) (fun x => [(1, .ptr b1 0), (5, x.2.1), (6, .sl true 0 [] .full), (7, I x.1)]) (fun x => x.2.2) (fun x => x.1 ≤ c.ty.length ∧ Gr H x.2.1 ((t0 c).take x.1) x.2.2) (fun x => c.ty.length - x.1)
    (0, .sl true 0 [] .full, H) ⟨Nat.zero_le _, Gr.new H⟩ (GStep.forget (by repeat' first | exact EnvLe.nil _ | refine EnvLe.cons (AV.le.of_eq rfl) ?_ | refine EnvLe.cons (AV.le.undef _) ?_ | refine EnvLe.cons AV.le.unk ?_) (by repeat' first | exact AH.le.refl _ | assumption | (refine AH.le_put ?_ (by first | assumption | exact (AH.blk_put_ne _ _ (by assumption)).trans (by assumption) | exact AH.none_put (by assumption) | exact AH.none_put (AH.none_put (by assumption)) | (simp only [AH.blk_setTok, AH.tok_put] at *; first | assumption | exact AH.none_put (by assumption)))) | (refine AH.le_setTok ?_ (by first | assumption | exact (AH.blk_put_ne _ _ (by assumption)).trans (by assumption) | exact AH.none_put (by assumption) | exact AH.none_put (AH.none_put (by assumption)) | (simp only [AH.blk_setTok, AH.tok_put] at *; first | assumption | exact AH.none_put (by assumption)))) | (refine AH.le_putM ?_ (by first | assumption | exact (AH.mp_putM_ne _ _ (by assumption)).trans (by assumption) | (simp only [AH.mp_put, AH.mp_setTok] at *; assumption))))) fun x hx => .of_vg hm ?_
  obtain ⟨i, x, F⟩ := x
  obtain ⟨hi, k⟩ := hx
  simp only at hi k ⊢
  have Fb := k.old Hb
  by_cases hic : i < c.ty.length
  · have hc1 : (i : Int) < (c.ty.length : Int) := by omega
    simp only [hc1, Fb, prs_drop hic, F_ref_Some, g_ref_Some, go_sem, reduceIte, Nat.reduceEqDiff, Nat.reduceAdd, Nat.reduceMul, Nat.reduceSub, reduceCtorEq, Nat.reduceLeDiff, Nat.reduceLT, Int.reduceLT, Int.reduceLE, Int.reduceToNat, Int.reduceAdd, Int.reduceSub, Int.reduceNeg, Int.reduceMul, Int.reduceEq, ← Bool.decide_and, ← Bool.decide_or, ↓tq_n, ↓tq_e, ↓tq_r, ↓bq_n, ↓bq_e, ↓bq_r, ↓rq_n, ↓rq_r, ↓rq_e]
    refine Gr.step k (by rw [List.length_take]; omega) fun x' F' k' => ?_
    simp only [F_ref_Some, g_ref_Some, go_sem, reduceIte, Nat.reduceEqDiff, Nat.reduceAdd, Nat.reduceMul, Nat.reduceSub, reduceCtorEq, Nat.reduceLeDiff, Nat.reduceLT, Int.reduceLT, Int.reduceLE, Int.reduceToNat, Int.reduceAdd, Int.reduceSub, Int.reduceNeg, Int.reduceMul, Int.reduceEq, ← Bool.decide_and, ← Bool.decide_or, ↓tq_n, ↓tq_e, ↓tq_r, ↓bq_n, ↓bq_e, ↓bq_r, ↓rq_n, ↓rq_r, ↓rq_e]
    refine ⟨by rw [inR64]; omega, (i + 1, x', F'), ⟨by simp only; omega, ?_⟩, by simp only; omega, (GStep.forget (by repeat' first | exact EnvLe.nil _ | refine EnvLe.cons (AV.le.of_eq rfl) ?_ | refine EnvLe.cons (AV.le.undef _) ?_ | refine EnvLe.cons AV.le.unk ?_) (by repeat' first | exact AH.le.refl _ | assumption | (refine AH.le_put ?_ (by first | assumption | exact (AH.blk_put_ne _ _ (by assumption)).trans (by assumption) | exact AH.none_put (by assumption) | exact AH.none_put (AH.none_put (by assumption)) | (simp only [AH.blk_setTok, AH.tok_put] at *; first | assumption | exact AH.none_put (by assumption)))) | (refine AH.le_setTok ?_ (by first | assumption | exact (AH.blk_put_ne _ _ (by assumption)).trans (by assumption) | exact AH.none_put (by assumption) | exact AH.none_put (AH.none_put (by assumption)) | (simp only [AH.blk_setTok, AH.tok_put] at *; first | assumption | exact AH.none_put (by assumption)))) | (refine AH.le_putM ?_ (by first | assumption | exact (AH.mp_putM_ne _ _ (by assumption)).trans (by assumption) | (simp only [AH.mp_put, AH.mp_setTok] at *; assumption)))))⟩
    simp only
    rw [take_add (by omega), t0_get c hic]; exact k'
  have hic : i = c.ty.length := by omega
  subst hic
  rw [← lt0, List.take_length] at k
  simp only [Fb, F_ref_Some, g_ref_Some, go_sem, reduceIte, Nat.reduceEqDiff, Nat.reduceAdd, Nat.reduceMul, Nat.reduceSub, reduceCtorEq, Nat.reduceLeDiff, Nat.reduceLT, Int.reduceLT, Int.reduceLE, Int.reduceToNat, Int.reduceAdd, Int.reduceSub, Int.reduceNeg, Int.reduceMul, Int.reduceEq, ← Bool.decide_and, ← Bool.decide_or, ↓tq_n, ↓tq_e, ↓tq_r, ↓bq_n, ↓bq_e, ↓bq_r, ↓rq_n, ↓rq_r, ↓rq_e]
  -- the hoards' beginnings
  refine awp_loop (α := Nat × AV × AH) (fun z => [(1, .ptr b1 0), (5, x), (6, z.2.1), (8, I z.1)]) (fun z => z.2.2) (fun z => z.1 ≤ c.ho.length ∧ Gr F z.2.1 ((h0 c).take z.1) z.2.2) (fun z => c.ho.length - z.1)
    (0, .sl true 0 [] .full, F) ⟨Nat.zero_le _, Gr.new F⟩ (GStep.forget (by repeat' first | exact EnvLe.nil _ | refine EnvLe.cons (AV.le.of_eq rfl) ?_ | refine EnvLe.cons (AV.le.undef _) ?_ | refine EnvLe.cons AV.le.unk ?_) (by repeat' first | exact AH.le.refl _ | assumption | (refine AH.le_put ?_ (by first | assumption | exact (AH.blk_put_ne _ _ (by assumption)).trans (by assumption) | exact AH.none_put (by assumption) | exact AH.none_put (AH.none_put (by assumption)) | (simp only [AH.blk_setTok, AH.tok_put] at *; first | assumption | exact AH.none_put (by assumption)))) | (refine AH.le_setTok ?_ (by first | assumption | exact (AH.blk_put_ne _ _ (by assumption)).trans (by assumption) | exact AH.none_put (by assumption) | exact AH.none_put (AH.none_put (by assumption)) | (simp only [AH.blk_setTok, AH.tok_put] at *; first | assumption | exact AH.none_put (by assumption)))) | (refine AH.le_putM ?_ (by first | assumption | exact (AH.mp_putM_ne _ _ (by assumption)).trans (by assumption) | (simp only [AH.mp_put, AH.mp_setTok] at *; assumption))))) fun z hz => .of_vg hm ?_
  obtain ⟨i, y, F1⟩ := z
  obtain ⟨hi2, ky⟩ := hz
  simp only at hi2 ky ⊢
  have Fb1 := ky.old Fb
  by_cases hic : i < c.ho.length
  · have hc1 : (i : Int) < (c.ho.length : Int) := by omega
    simp only [hc1, Fb1, hds_drop hic, F_ref_Some, g_ref_Some, go_sem, reduceIte, Nat.reduceEqDiff, Nat.reduceAdd, Nat.reduceMul, Nat.reduceSub, reduceCtorEq, Nat.reduceLeDiff, Nat.reduceLT, Int.reduceLT, Int.reduceLE, Int.reduceToNat, Int.reduceAdd, Int.reduceSub, Int.reduceNeg, Int.reduceMul, Int.reduceEq, ← Bool.decide_and, ← Bool.decide_or, ↓tq_n, ↓tq_e, ↓tq_r, ↓bq_n, ↓bq_e, ↓bq_r, ↓rq_n, ↓rq_r, ↓rq_e]
    refine Gr.step ky (by rw [List.length_take]; omega) fun x' F' k' => ?_
    simp only [F_ref_Some, g_ref_Some, go_sem, reduceIte, Nat.reduceEqDiff, Nat.reduceAdd, Nat.reduceMul, Nat.reduceSub, reduceCtorEq, Nat.reduceLeDiff, Nat.reduceLT, Int.reduceLT, Int.reduceLE, Int.reduceToNat, Int.reduceAdd, Int.reduceSub, Int.reduceNeg, Int.reduceMul, Int.reduceEq, ← Bool.decide_and, ← Bool.decide_or, ↓tq_n, ↓tq_e, ↓tq_r, ↓bq_n, ↓bq_e, ↓bq_r, ↓rq_n, ↓rq_r, ↓rq_e]
    refine ⟨by rw [inR64]; omega, (i + 1, x', F'), ⟨by simp only; omega, ?_⟩, by simp only; omega, (GStep.forget (by repeat' first | exact EnvLe.nil _ | refine EnvLe.cons (AV.le.of_eq rfl) ?_ | refine EnvLe.cons (AV.le.undef _) ?_ | refine EnvLe.cons AV.le.unk ?_) (by repeat' first | exact AH.le.refl _ | assumption | (refine AH.le_put ?_ (by first | assumption | exact (AH.blk_put_ne _ _ (by assumption)).trans (by assumption) | exact AH.none_put (by assumption) | exact AH.none_put (AH.none_put (by assumption)) | (simp only [AH.blk_setTok, AH.tok_put] at *; first | assumption | exact AH.none_put (by assumption)))) | (refine AH.le_setTok ?_ (by first | assumption | exact (AH.blk_put_ne _ _ (by assumption)).trans (by assumption) | exact AH.none_put (by assumption) | exact AH.none_put (AH.none_put (by assumption)) | (simp only [AH.blk_setTok, AH.tok_put] at *; first | assumption | exact AH.none_put (by assumption)))) | (refine AH.le_putM ?_ (by first | assumption | exact (AH.mp_putM_ne _ _ (by assumption)).trans (by assumption) | (simp only [AH.mp_put, AH.mp_setTok] at *; assumption)))))⟩
    simp only
    rw [take_add (by omega), h0_get c hic]; exact k'
  have hic : i = c.ho.length := by omega
  subst hic
  rw [← lh0, List.take_length] at ky
  simp only [Fb1, F_ref_Some, g_ref_Some, go_sem, reduceIte, Nat.reduceEqDiff, Nat.reduceAdd, Nat.reduceMul, Nat.reduceSub, reduceCtorEq, Nat.reduceLeDiff, Nat.reduceLT, Int.reduceLT, Int.reduceLE, Int.reduceToNat, Int.reduceAdd, Int.reduceSub, Int.reduceNeg, Int.reduceMul, Int.reduceEq, ← Bool.decide_and, ← Bool.decide_or, ↓tq_n, ↓tq_e, ↓tq_r, ↓bq_n, ↓bq_e, ↓bq_r, ↓rq_n, ↓rq_r, ↓rq_e]
  obtain ⟨kx, kyH, hdj⟩ := k.later ky
  clear k ky Fb Fb1 hi hi2
  -- raising
  refine awp_loop (α := List Int × List Int × AH) (fun z => [(1, .ptr b1 0), (5, x), (6, y)]) (fun z => z.2.2)
    (fun z => LoS c z.1 z.2.1 ∧ Gr H x z.1 z.2.2 ∧ Gr H y z.2.1 z.2.2 ∧ (∀ i, i < c.ty.length → z.1.getD i 0 ≤ (c.ty.getD i (0, 0)).2) ∧ ∀ i, i < c.ho.length → z.2.1.getD i 0 ≤ (c.ho.getD i dH).cl.2)
    (fun z => (mz c z.1 z.2.1).toNat) (t0 c, h0 c, F1) ⟨LoS.init c, kx, kyH, fun i hi => by rw [t0_get c hi]; exact (h1.2.1 i hi).1, fun i hi => by rw [h0_get c hi]; exact (h1.2.2.1 i hi).1.2.2.2.1⟩ (GStep.forget (by repeat' first | exact EnvLe.nil _ | refine EnvLe.cons (AV.le.of_eq rfl) ?_ | refine EnvLe.cons (AV.le.undef _) ?_ | refine EnvLe.cons AV.le.unk ?_) (by repeat' first | exact AH.le.refl _ | assumption | (refine AH.le_put ?_ (by first | assumption | exact (AH.blk_put_ne _ _ (by assumption)).trans (by assumption) | exact AH.none_put (by assumption) | exact AH.none_put (AH.none_put (by assumption)) | (simp only [AH.blk_setTok, AH.tok_put] at *; first | assumption | exact AH.none_put (by assumption)))) | (refine AH.le_setTok ?_ (by first | assumption | exact (AH.blk_put_ne _ _ (by assumption)).trans (by assumption) | exact AH.none_put (by assumption) | exact AH.none_put (AH.none_put (by assumption)) | (simp only [AH.blk_setTok, AH.tok_put] at *; first | assumption | exact AH.none_put (by assumption)))) | (refine AH.le_putM ?_ (by first | assumption | exact (AH.mp_putM_ne _ _ (by assumption)).trans (by assumption) | (simp only [AH.mp_put, AH.mp_setTok] at *; assumption))))) fun z hz => .of_vg hm ?_
  clear kx kyH
  obtain ⟨ts0, hs0, F2⟩ := z
  obtain ⟨lo0, kx0, ky0, ut0, uh0⟩ := hz
  simp only at lo0 kx0 ky0 ut0 uh0 ⊢
  have Fb2 := kx0.old Hb
  simp only [Fb2, F_ref_Some, g_ref_Some, go_sem, reduceIte, Nat.reduceEqDiff, Nat.reduceAdd, Nat.reduceMul, Nat.reduceSub, reduceCtorEq, Nat.reduceLeDiff, Nat.reduceLT, Int.reduceLT, Int.reduceLE, Int.reduceToNat, Int.reduceAdd, Int.reduceSub, Int.reduceNeg, Int.reduceMul, Int.reduceEq, ← Bool.decide_and, ← Bool.decide_or, ↓tq_n, ↓tq_e, ↓tq_r, ↓bq_n, ↓bq_e, ↓bq_r, ↓rq_n, ↓rq_r, ↓rq_e]
  refine CallG.mk (r_ref_Is c _ kx0.rd ky0.rd) ?_
  simp only [F_ref_Some, g_ref_Some, go_sem, reduceIte, Nat.reduceEqDiff, Nat.reduceAdd, Nat.reduceMul, Nat.reduceSub, reduceCtorEq, Nat.reduceLeDiff, Nat.reduceLT, Int.reduceLT, Int.reduceLE, Int.reduceToNat, Int.reduceAdd, Int.reduceSub, Int.reduceNeg, Int.reduceMul, Int.reduceEq, ← Bool.decide_and, ← Bool.decide_or, ↓tq_n, ↓tq_e, ↓tq_r, ↓bq_n, ↓bq_e, ↓bq_r, ↓rq_n, ↓rq_r, ↓rq_e]
  refine ⟨fun hD => ?_, fun hD => ?_⟩
  case refine_2 =>
    obtain ⟨ok, rfl, rfl⟩ := lo0.done hD
    rw [if_pos ok]
    exact ⟨_, h', (gr_ret2 kx0 ky0 hdj).trans (RGh.forget (AV.le.refl _) Hle), rfl, rfl⟩
  -- the gaps
  refine awp_loop (α := Nat × List Int × AH) (fun z => [(1, .ptr b1 0), (5, x), (6, y), (9, I z.1)]) (fun z => z.2.2)
    (fun z => z.1 ≤ c.ga.length ∧ LoS c z.2.1 hs0 ∧ Gr H x z.2.1 z.2.2 ∧ Gr H y hs0 z.2.2 ∧ (∀ i, i < c.ty.length → ts0.getD i 0 ≤ z.2.1.getD i 0 ∧ z.2.1.getD i 0 ≤ 9999 + 20000 * z.1) ∧ (z.2.1 = ts0 → ∀ b, b < z.1 → gapOK c ts0 b))
    (fun z => c.ga.length - z.1) (0, ts0, F2) ⟨Nat.zero_le _, lo0, kx0, ky0, fun i hi => ⟨Int.le_refl _, by have := ut0 i hi; have := (h1.2.1 i hi).2.2; simp only; omega⟩, fun _ b hb => absurd hb (Nat.not_lt_zero _)⟩ (GStep.forget (by repeat' first | exact EnvLe.nil _ | refine EnvLe.cons (AV.le.of_eq rfl) ?_ | refine EnvLe.cons (AV.le.undef _) ?_ | refine EnvLe.cons AV.le.unk ?_) (by repeat' first | exact AH.le.refl _ | assumption | (refine AH.le_put ?_ (by first | assumption | exact (AH.blk_put_ne _ _ (by assumption)).trans (by assumption) | exact AH.none_put (by assumption) | exact AH.none_put (AH.none_put (by assumption)) | (simp only [AH.blk_setTok, AH.tok_put] at *; first | assumption | exact AH.none_put (by assumption)))) | (refine AH.le_setTok ?_ (by first | assumption | exact (AH.blk_put_ne _ _ (by assumption)).trans (by assumption) | exact AH.none_put (by assumption) | exact AH.none_put (AH.none_put (by assumption)) | (simp only [AH.blk_setTok, AH.tok_put] at *; first | assumption | exact AH.none_put (by assumption)))) | (refine AH.le_putM ?_ (by first | assumption | exact (AH.mp_putM_ne _ _ (by assumption)).trans (by assumption) | (simp only [AH.mp_put, AH.mp_setTok] at *; assumption))))) fun z hz => .of_vg hm ?_
  obtain ⟨a, ts, F3⟩ := z
  obtain ⟨ha, lo, kx, ky, ge, hg⟩ := hz
  simp only at ha lo kx ky ge hg ⊢
  have Fb3 := kx.old Hb
  by_cases hac : a < c.ga.length
  · have hc1 : (a : Int) < (c.ga.length : Int) := by omega
    have lo' := lo.gap h1 hac
    have hgo : ∀ ts' : List Int, gapOK c ts' a ↔ ts'.getD ((c.ga.getD a (0, 0, 0)).2.1 - 1).toNat 0 - ts'.getD ((c.ga.getD a (0, 0, 0)).1 - 1).toNat 0 ≤ (c.ga.getD a (0, 0, 0)).2.2 := fun _ => Iff.rfl
    have hgv := h1.2.2.2 a hac
    unfold gOK at hgv
    simp only [hc1, Fb3, trs_drop hac, F_ref_Some, g_ref_Some, go_sem, reduceIte, Nat.reduceEqDiff, Nat.reduceAdd, Nat.reduceMul, Nat.reduceSub, reduceCtorEq, Nat.reduceLeDiff, Nat.reduceLT, Int.reduceLT, Int.reduceLE, Int.reduceToNat, Int.reduceAdd, Int.reduceSub, Int.reduceNeg, Int.reduceMul, Int.reduceEq, ← Bool.decide_and, ← Bool.decide_or, ↓tq_n, ↓tq_e, ↓tq_r, ↓bq_n, ↓bq_e, ↓bq_r, ↓rq_n, ↓rq_r, ↓rq_e]
    generalize c.ga.getD a (0, 0, 0) = g at *
    refine AllocG.mk fun b9 hb9 => ?_
    have kx2 := kx.put hb9 [I g.1, I g.2.1, I g.2.2]
    have ky2 := ky.put hb9 [I g.1, I g.2.1, I g.2.2]
    have i1 : InR .i64 (g.1 - 1) := by rw [inR64]; omega
    have i2 : InR .i64 (g.2.1 - 1) := by rw [inR64]; omega
    have lts := lo.1
    have g1 : (g.1 - 1).toNat < ts.length := by omega
    have g2 : (g.2.1 - 1).toNat < ts.length := by omega
    have g10 : (0 : Int) ≤ g.1 - 1 := by omega
    have g20 : (0 : Int) ≤ g.2.1 - 1 := by omega
    have g1c : g.1 - 1 < (ts.length : Int) := by omega
    have g2c : g.2.1 - 1 < (ts.length : Int) := by omega
    have a1 := ge _ (show (g.1 - 1).toNat < c.ty.length by omega)
    have a2 := ge _ (show (g.2.1 - 1).toNat < c.ty.length by omega)
    have a3 := lo.2.2.2.1 _ (show (g.2.1 - 1).toNat < c.ty.length by omega)
    have y2 := h1.2.1 _ (show (g.2.1 - 1).toNat < c.ty.length by omega)
    unfold Yv at y2
    have i3 : InR .i64 (ts.getD (g.2.1 - 1).toNat 0 - g.2.2) := by rw [inR64]; omega
    simp only [i1, i2, rd_ix kx2.rd, rd_ld kx2.rd g1, rd_ld kx2.rd g2, g10, g20, g1c, g2c, i3, gr_st kx2 g1, F_ref_Some, g_ref_Some, go_sem, reduceIte, Nat.reduceEqDiff, Nat.reduceAdd, Nat.reduceMul, Nat.reduceSub, reduceCtorEq, Nat.reduceLeDiff, Nat.reduceLT, Int.reduceLT, Int.reduceLE, Int.reduceToNat, Int.reduceAdd, Int.reduceSub, Int.reduceNeg, Int.reduceMul, Int.reduceEq, ← Bool.decide_and, ← Bool.decide_or, ↓tq_n, ↓tq_e, ↓tq_r, ↓bq_n, ↓bq_e, ↓bq_r, ↓rq_n, ↓rq_r, ↓rq_e]
    refine ⟨by rw [inR64]; omega, (a + 1, ts.set (g.1 - 1).toNat (max (ts.getD (g.1 - 1).toNat 0) (ts.getD (g.2.1 - 1).toNat 0 - g.2.2)), _), ⟨by simp only; omega, lo', kx2.wr g1 _, kx2.other ky2 hdj _, fun i hi => ?_, fun he b hb => ?_⟩, by simp only; omega, (GStep.forget (by repeat' first | exact EnvLe.nil _ | refine EnvLe.cons (AV.le.of_eq rfl) ?_ | refine EnvLe.cons (AV.le.undef _) ?_ | refine EnvLe.cons AV.le.unk ?_) (by repeat' first | exact AH.le.refl _ | assumption | (refine AH.le_put ?_ (by first | assumption | exact (AH.blk_put_ne _ _ (by assumption)).trans (by assumption) | exact AH.none_put (by assumption) | exact AH.none_put (AH.none_put (by assumption)) | (simp only [AH.blk_setTok, AH.tok_put] at *; first | assumption | exact AH.none_put (by assumption)))) | (refine AH.le_setTok ?_ (by first | assumption | exact (AH.blk_put_ne _ _ (by assumption)).trans (by assumption) | exact AH.none_put (by assumption) | exact AH.none_put (AH.none_put (by assumption)) | (simp only [AH.blk_setTok, AH.tok_put] at *; first | assumption | exact AH.none_put (by assumption)))) | (refine AH.le_putM ?_ (by first | assumption | exact (AH.mp_putM_ne _ _ (by assumption)).trans (by assumption) | (simp only [AH.mp_put, AH.mp_setTok] at *; assumption)))))⟩
    · simp only
      rw [getD_set _ _ _ _ g1]
      have := ge i hi
      split
      · rename_i he; subst he; omega
      · omega
    · simp only at he hb
      have hset : ∀ i, i < c.ty.length → (ts.set (g.1 - 1).toNat (max (ts.getD (g.1 - 1).toNat 0) (ts.getD (g.2.1 - 1).toNat 0 - g.2.2))).getD i 0 = if i = (g.1 - 1).toNat then (max (ts.getD (g.1 - 1).toNat 0) (ts.getD (g.2.1 - 1).toNat 0 - g.2.2)) else ts.getD i 0 := fun i hi => getD_set _ _ _ _ g1
      rw [he] at hset
      have hts : ts = ts0 := by
        refine getD_ext (by rw [lts, lo0.1]) fun i hi => ?_
        have e1 := hset i (by omega)
        have e2 := ge i (by omega)
        split at e1
        · rename_i hh; rw [← hh] at e1; omega
        · omega
      rcases lt_succ_cases hb with hb | rfl
      · exact hg hts b hb
      · rw [hgo]
        have e1 := hset (g.1 - 1).toNat (by omega)
        rw [if_pos rfl, hts] at e1
        omega
  have hac : a = c.ga.length := by omega
  subst hac
  simp only [Fb3, F_ref_Some, g_ref_Some, go_sem, reduceIte, Nat.reduceEqDiff, Nat.reduceAdd, Nat.reduceMul, Nat.reduceSub, reduceCtorEq, Nat.reduceLeDiff, Nat.reduceLT, Int.reduceLT, Int.reduceLE, Int.reduceToNat, Int.reduceAdd, Int.reduceSub, Int.reduceNeg, Int.reduceMul, Int.reduceEq, ← Bool.decide_and, ← Bool.decide_or, ↓tq_n, ↓tq_e, ↓tq_r, ↓bq_n, ↓bq_e, ↓bq_r, ↓rq_n, ↓rq_r, ↓rq_e]
  have nOk : ∀ {G : AH}, h'.le G → ¬ Ok c → (∃ r' h'', RGh (.tup [.sl true 0 [] .full, .sl true 0 [] .full, I 10]) G r' h'' ∧ r' = (if Ok c then .tup [asl (loT c), asl (loH c), I 0] else .tup [.sl true 0 [] .full, .sl true 0 [] .full, I 10]) ∧ h'' = h') := fun hle hn => ret_hb hle (by rw [if_neg hn])
  have gt : ∀ i, i < c.ty.length → ts0.getD i 0 ≤ ts.getD i 0 := fun i hi => (ge i hi).1
  clear ge Fb3 Fb2 ha
  -- the hoards
  refine awp_loop (α := Nat × List Int × AH) (fun z => [(1, .ptr b1 0), (5, x), (6, y), (11, I z.1)]) (fun z => z.2.2)
    (fun z => z.1 ≤ c.ho.length ∧ LoS c ts z.2.1 ∧ Gr H x ts z.2.2 ∧ Gr H y z.2.1 z.2.2 ∧ (∀ i, i < c.ho.length → hs0.getD i 0 ≤ z.2.1.getD i 0) ∧ ∀ i, i < z.1 → z.2.1.getD i 0 ≤ (c.ho.getD i dH).cl.2 ∧ ∀ k, k < (c.ho.getD i dH).coins.length → coinOK c ts z.2.1 i k)
    (fun z => c.ho.length - z.1) (0, hs0, F3) ⟨Nat.zero_le _, lo, kx, ky, fun i hi => Int.le_refl _, fun b hb => absurd hb (Nat.not_lt_zero _)⟩ (GStep.forget (by repeat' first | exact EnvLe.nil _ | refine EnvLe.cons (AV.le.of_eq rfl) ?_ | refine EnvLe.cons (AV.le.undef _) ?_ | refine EnvLe.cons AV.le.unk ?_) (by repeat' first | exact AH.le.refl _ | assumption | (refine AH.le_put ?_ (by first | assumption | exact (AH.blk_put_ne _ _ (by assumption)).trans (by assumption) | exact AH.none_put (by assumption) | exact AH.none_put (AH.none_put (by assumption)) | (simp only [AH.blk_setTok, AH.tok_put] at *; first | assumption | exact AH.none_put (by assumption)))) | (refine AH.le_setTok ?_ (by first | assumption | exact (AH.blk_put_ne _ _ (by assumption)).trans (by assumption) | exact AH.none_put (by assumption) | exact AH.none_put (AH.none_put (by assumption)) | (simp only [AH.blk_setTok, AH.tok_put] at *; first | assumption | exact AH.none_put (by assumption)))) | (refine AH.le_putM ?_ (by first | assumption | exact (AH.mp_putM_ne _ _ (by assumption)).trans (by assumption) | (simp only [AH.mp_put, AH.mp_setTok] at *; assumption))))) fun z hz => .of_vg hm ?_
  clear lo kx ky
  obtain ⟨a, hs, F4⟩ := z
  obtain ⟨ha, lo, kx, ky, gh, hb⟩ := hz
  simp only at ha lo kx ky gh hb ⊢
  have Fb4 := kx.old Hb
  by_cases hac : a < c.ho.length
  · have hc1 : (a : Int) < (c.ho.length : Int) := by omega
    simp only [hc1, Fb4, F_ref_Some, g_ref_Some, go_sem, reduceIte, Nat.reduceEqDiff, Nat.reduceAdd, Nat.reduceMul, Nat.reduceSub, reduceCtorEq, Nat.reduceLeDiff, Nat.reduceLT, Int.reduceLT, Int.reduceLE, Int.reduceToNat, Int.reduceAdd, Int.reduceSub, Int.reduceNeg, Int.reduceMul, Int.reduceEq, ← Bool.decide_and, ← Bool.decide_or, ↓tq_n, ↓tq_e, ↓tq_r, ↓bq_n, ↓bq_e, ↓bq_r, ↓rq_n, ↓rq_r, ↓rq_e]
    refine awp_loop (α := Nat × List Int × AH) (fun z => [(1, .ptr b1 0), (5, x), (6, y), (11, I a), (12, I z.1)]) (fun z => z.2.2)
      (fun z => z.1 ≤ (c.ho.getD a dH).coins.length ∧ LoS c ts z.2.1 ∧ Gr H x ts z.2.2 ∧ Gr H y z.2.1 z.2.2 ∧ (∀ i, i < c.ho.length → hs0.getD i 0 ≤ z.2.1.getD i 0) ∧ (∀ i, i < a → z.2.1.getD i 0 ≤ (c.ho.getD i dH).cl.2 ∧ ∀ k, k < (c.ho.getD i dH).coins.length → coinOK c ts z.2.1 i k) ∧ ∀ k, k < z.1 → coinOK c ts z.2.1 a k)
      (fun z => (c.ho.getD a dH).coins.length - z.1) (0, hs, F4) ⟨Nat.zero_le _, lo, kx, ky, gh, hb, fun b hb => absurd hb (Nat.not_lt_zero _)⟩ (GStep.forget (by repeat' first | exact EnvLe.nil _ | refine EnvLe.cons (AV.le.of_eq rfl) ?_ | refine EnvLe.cons (AV.le.undef _) ?_ | refine EnvLe.cons AV.le.unk ?_) (by repeat' first | exact AH.le.refl _ | assumption | (refine AH.le_put ?_ (by first | assumption | exact (AH.blk_put_ne _ _ (by assumption)).trans (by assumption) | exact AH.none_put (by assumption) | exact AH.none_put (AH.none_put (by assumption)) | (simp only [AH.blk_setTok, AH.tok_put] at *; first | assumption | exact AH.none_put (by assumption)))) | (refine AH.le_setTok ?_ (by first | assumption | exact (AH.blk_put_ne _ _ (by assumption)).trans (by assumption) | exact AH.none_put (by assumption) | exact AH.none_put (AH.none_put (by assumption)) | (simp only [AH.blk_setTok, AH.tok_put] at *; first | assumption | exact AH.none_put (by assumption)))) | (refine AH.le_putM ?_ (by first | assumption | exact (AH.mp_putM_ne _ _ (by assumption)).trans (by assumption) | (simp only [AH.mp_put, AH.mp_setTok] at *; assumption))))) fun z hz => .of_vg hm ?_
    clear lo kx ky gh hb Fb4
    obtain ⟨e, hs, F5⟩ := z
    obtain ⟨he, lo, kx, ky, gh, hb, hk⟩ := hz
    simp only at he lo kx ky gh hb hk ⊢
    have Fb5 := kx.old Hb
    have lhs := lo.2.1
    have lts := lo.1
    have ah : a < hs.length := by omega
    have ahc : (a : Int) < (hs.length : Int) := by omega
    have hcl := (h1.2.2.1 a hac).1.2.1
    by_cases hec : e < (c.ho.getD a dH).coins.length
    · have hc2 : (e : Int) < ((c.ho.getD a dH).coins.length : Int) := by omega
      have hkey := vc_coin h1 hac hec
      have lo' := lo.coin h1 hac hec
      have ik : InR .i64 (((c.ho.getD a dH).coins.getD e (0, 0)).1 - 1) := by rw [inR64]; omega
      have hkt : (((c.ho.getD a dH).coins.getD e (0, 0)).1 - 1).toNat < ts.length := by omega
      have k0 : (0 : Int) ≤ ((c.ho.getD a dH).coins.getD e (0, 0)).1 - 1 := by omega
      have k1 : ((c.ho.getD a dH).coins.getD e (0, 0)).1 - 1 < (ts.length : Int) := by omega
      simp only [hc1, Fb5, hds_drop hac, hc2, prs_drop hec, ik, ahc, rd_ix ky.rd, rd_ld ky.rd ah, rd_ix kx.rd, rd_ld kx.rd hkt, k0, k1, gr_st ky ah, F_ref_Some, g_ref_Some, go_sem, reduceIte, Nat.reduceEqDiff, Nat.reduceAdd, Nat.reduceMul, Nat.reduceSub, reduceCtorEq, Nat.reduceLeDiff, Nat.reduceLT, Int.reduceLT, Int.reduceLE, Int.reduceToNat, Int.reduceAdd, Int.reduceSub, Int.reduceNeg, Int.reduceMul, Int.reduceEq, ← Bool.decide_and, ← Bool.decide_or, ↓tq_n, ↓tq_e, ↓tq_r, ↓bq_n, ↓bq_e, ↓bq_r, ↓rq_n, ↓rq_r, ↓rq_e]
      refine ⟨by rw [inR64]; omega, (e + 1, hs.set a (max (hs.getD a 0) (ts.getD (((c.ho.getD a dH).coins.getD e (0, 0)).1 - 1).toNat 0)), _), ⟨by simp only; omega, lo', ky.other kx hdj.symm _, ky.wr ah _, fun i hi => ?_, fun i hi => ?_, fun k hk2 => ?_⟩, by simp only; omega, (GStep.forget (by repeat' first | exact EnvLe.nil _ | refine EnvLe.cons (AV.le.of_eq rfl) ?_ | refine EnvLe.cons (AV.le.undef _) ?_ | refine EnvLe.cons AV.le.unk ?_) (by repeat' first | exact AH.le.refl _ | assumption | (refine AH.le_put ?_ (by first | assumption | exact (AH.blk_put_ne _ _ (by assumption)).trans (by assumption) | exact AH.none_put (by assumption) | exact AH.none_put (AH.none_put (by assumption)) | (simp only [AH.blk_setTok, AH.tok_put] at *; first | assumption | exact AH.none_put (by assumption)))) | (refine AH.le_setTok ?_ (by first | assumption | exact (AH.blk_put_ne _ _ (by assumption)).trans (by assumption) | exact AH.none_put (by assumption) | exact AH.none_put (AH.none_put (by assumption)) | (simp only [AH.blk_setTok, AH.tok_put] at *; first | assumption | exact AH.none_put (by assumption)))) | (refine AH.le_putM ?_ (by first | assumption | exact (AH.mp_putM_ne _ _ (by assumption)).trans (by assumption) | (simp only [AH.mp_put, AH.mp_setTok] at *; assumption)))))⟩
      · simp only
        rw [getD_set _ _ _ _ ah]
        have := gh i hi
        split
        · rename_i hh; subst hh; omega
        · exact this
      · have hia : ¬ i = a := by omega
        simp only [coinOK] at hb ⊢
        rw [getD_set _ _ _ _ ah, if_neg hia]
        exact hb i hi
      · simp only [coinOK] at hk ⊢
        rw [getD_set _ _ _ _ ah, if_pos rfl]
        rcases lt_succ_cases hk2 with h3 | rfl
        · have := hk k h3; omega
        · omega
    have hec : e = (c.ho.getD a dH).coins.length := by omega
    subst hec
    simp only [hc1, Fb5, hds_drop hac, ahc, rd_ix ky.rd, rd_ld ky.rd ah, F_ref_Some, g_ref_Some, go_sem, reduceIte, Nat.reduceEqDiff, Nat.reduceAdd, Nat.reduceMul, Nat.reduceSub, reduceCtorEq, Nat.reduceLeDiff, Nat.reduceLT, Int.reduceLT, Int.reduceLE, Int.reduceToNat, Int.reduceAdd, Int.reduceSub, Int.reduceNeg, Int.reduceMul, Int.reduceEq, ← Bool.decide_and, ← Bool.decide_or, ↓tq_n, ↓tq_e, ↓tq_r, ↓bq_n, ↓bq_e, ↓bq_r, ↓rq_n, ↓rq_r, ↓rq_e]
    refine ⟨fun h3 => nOk (AH.le.trans Hle kx.1) (fun ho => ?_), fun h3 => ⟨by rw [inR64]; omega, (a + 1, hs, F5), ⟨by simp only; omega, lo, kx, ky, gh, all_succ hb ⟨by simp only; omega, hk⟩⟩, by simp only; omega, (GStep.forget (by repeat' first | exact EnvLe.nil _ | refine EnvLe.cons (AV.le.of_eq rfl) ?_ | refine EnvLe.cons (AV.le.undef _) ?_ | refine EnvLe.cons AV.le.unk ?_) (by repeat' first | exact AH.le.refl _ | assumption | (refine AH.le_put ?_ (by first | assumption | exact (AH.blk_put_ne _ _ (by assumption)).trans (by assumption) | exact AH.none_put (by assumption) | exact AH.none_put (AH.none_put (by assumption)) | (simp only [AH.blk_setTok, AH.tok_put] at *; first | assumption | exact AH.none_put (by assumption)))) | (refine AH.le_setTok ?_ (by first | assumption | exact (AH.blk_put_ne _ _ (by assumption)).trans (by assumption) | exact AH.none_put (by assumption) | exact AH.none_put (AH.none_put (by assumption)) | (simp only [AH.blk_setTok, AH.tok_put] at *; first | assumption | exact AH.none_put (by assumption)))) | (refine AH.le_putM ?_ (by first | assumption | exact (AH.mp_putM_ne _ _ (by assumption)).trans (by assumption) | (simp only [AH.mp_put, AH.mp_setTok] at *; assumption)))))⟩⟩
    have d1 := (ends_dt h1 ho).1
    have e1 := (lo.2.2.1 _ _ d1).2 a hac
    have e2 := (d1.2.2.2.2.1 a hac).1.2
    omega
  have hac : a = c.ho.length := by omega
  subst hac
  simp only [Fb4, F_ref_Some, g_ref_Some, go_sem, reduceIte, Nat.reduceEqDiff, Nat.reduceAdd, Nat.reduceMul, Nat.reduceSub, reduceCtorEq, Nat.reduceLeDiff, Nat.reduceLT, Int.reduceLT, Int.reduceLE, Int.reduceToNat, Int.reduceAdd, Int.reduceSub, Int.reduceNeg, Int.reduceMul, Int.reduceEq, ← Bool.decide_and, ← Bool.decide_or, ↓tq_n, ↓tq_e, ↓tq_r, ↓bq_n, ↓bq_e, ↓bq_r, ↓rq_n, ↓rq_r, ↓rq_e]
  -- the types
  have lts := lo.1
  refine awp_loop (fun i : Nat => [(1, .ptr b1 0), (5, x), (6, y), (13, I i)]) (fun _ => F4) (fun i => i ≤ c.ty.length ∧ ∀ j, j < i → ts.getD j 0 ≤ (c.ty.getD j (0, 0)).2) (fun i => c.ty.length - i) 0 ⟨Nat.zero_le _, fun b hb => absurd hb (Nat.not_lt_zero _)⟩ (GStep.forget (by repeat' first | exact EnvLe.nil _ | refine EnvLe.cons (AV.le.of_eq rfl) ?_ | refine EnvLe.cons (AV.le.undef _) ?_ | refine EnvLe.cons AV.le.unk ?_) (by repeat' first | exact AH.le.refl _ | assumption | (refine AH.le_put ?_ (by first | assumption | exact (AH.blk_put_ne _ _ (by assumption)).trans (by assumption) | exact AH.none_put (by assumption) | exact AH.none_put (AH.none_put (by assumption)) | (simp only [AH.blk_setTok, AH.tok_put] at *; first | assumption | exact AH.none_put (by assumption)))) | (refine AH.le_setTok ?_ (by first | assumption | exact (AH.blk_put_ne _ _ (by assumption)).trans (by assumption) | exact AH.none_put (by assumption) | exact AH.none_put (AH.none_put (by assumption)) | (simp only [AH.blk_setTok, AH.tok_put] at *; first | assumption | exact AH.none_put (by assumption)))) | (refine AH.le_putM ?_ (by first | assumption | exact (AH.mp_putM_ne _ _ (by assumption)).trans (by assumption) | (simp only [AH.mp_put, AH.mp_setTok] at *; assumption))))) fun i hi => .of_vg hm ?_
  obtain ⟨hi, hu⟩ := hi
  by_cases hic : i < c.ty.length
  · have hil : i < ts.length := by omega
    have hc1 : (i : Int) < (ts.length : Int) := by omega
    have hc2 : (i : Int) < (c.ty.length : Int) := by omega
    simp only [rd_len kx.rd, hc1, hc2, Fb4, rd_ix kx.rd, rd_ld kx.rd hil, prs_drop hic, F_ref_Some, g_ref_Some, go_sem, reduceIte, Nat.reduceEqDiff, Nat.reduceAdd, Nat.reduceMul, Nat.reduceSub, reduceCtorEq, Nat.reduceLeDiff, Nat.reduceLT, Int.reduceLT, Int.reduceLE, Int.reduceToNat, Int.reduceAdd, Int.reduceSub, Int.reduceNeg, Int.reduceMul, Int.reduceEq, ← Bool.decide_and, ← Bool.decide_or, ↓tq_n, ↓tq_e, ↓tq_r, ↓bq_n, ↓bq_e, ↓bq_r, ↓rq_n, ↓rq_r, ↓rq_e]
    refine ⟨fun h3 => nOk (AH.le.trans Hle kx.1) (fun ho => ?_), fun h3 => ⟨by rw [inR64]; omega, i + 1, ⟨by omega, all_succ hu (by omega)⟩, by omega, (GStep.forget (by repeat' first | exact EnvLe.nil _ | refine EnvLe.cons (AV.le.of_eq rfl) ?_ | refine EnvLe.cons (AV.le.undef _) ?_ | refine EnvLe.cons AV.le.unk ?_) (by repeat' first | exact AH.le.refl _ | assumption | (refine AH.le_put ?_ (by first | assumption | exact (AH.blk_put_ne _ _ (by assumption)).trans (by assumption) | exact AH.none_put (by assumption) | exact AH.none_put (AH.none_put (by assumption)) | (simp only [AH.blk_setTok, AH.tok_put] at *; first | assumption | exact AH.none_put (by assumption)))) | (refine AH.le_setTok ?_ (by first | assumption | exact (AH.blk_put_ne _ _ (by assumption)).trans (by assumption) | exact AH.none_put (by assumption) | exact AH.none_put (AH.none_put (by assumption)) | (simp only [AH.blk_setTok, AH.tok_put] at *; first | assumption | exact AH.none_put (by assumption)))) | (refine AH.le_putM ?_ (by first | assumption | exact (AH.mp_putM_ne _ _ (by assumption)).trans (by assumption) | (simp only [AH.mp_put, AH.mp_setTok] at *; assumption)))))⟩⟩
    have d1 := (ends_dt h1 ho).1
    have e1 := (lo.2.2.1 _ _ d1).1 i hic
    have e2 := (d1.2.2.2.1 i hic).2
    omega
  have hic : i = c.ty.length := by omega
  subst hic
  have hnc : ¬ (c.ty.length : Int) < (ts.length : Int) := by omega
  simp only [rd_len kx.rd, hnc, F_ref_Some, g_ref_Some, go_sem, reduceIte, Nat.reduceEqDiff, Nat.reduceAdd, Nat.reduceMul, Nat.reduceSub, reduceCtorEq, Nat.reduceLeDiff, Nat.reduceLT, Int.reduceLT, Int.reduceLE, Int.reduceToNat, Int.reduceAdd, Int.reduceSub, Int.reduceNeg, Int.reduceMul, Int.reduceEq, ← Bool.decide_and, ← Bool.decide_or, ↓tq_n, ↓tq_e, ↓tq_r, ↓bq_n, ↓bq_e, ↓bq_r, ↓rq_n, ↓rq_r, ↓rq_e]
  refine ⟨(ts, hs, F4), ⟨lo, kx, ky, hu, fun i hi => (hb i hi).1⟩, ?_, (GStep.forget (by repeat' first | exact EnvLe.nil _ | refine EnvLe.cons (AV.le.of_eq rfl) ?_ | refine EnvLe.cons (AV.le.undef _) ?_ | refine EnvLe.cons AV.le.unk ?_) (by repeat' first | exact AH.le.refl _ | assumption | (refine AH.le_put ?_ (by first | assumption | exact (AH.blk_put_ne _ _ (by assumption)).trans (by assumption) | exact AH.none_put (by assumption) | exact AH.none_put (AH.none_put (by assumption)) | (simp only [AH.blk_setTok, AH.tok_put] at *; first | assumption | exact AH.none_put (by assumption)))) | (refine AH.le_setTok ?_ (by first | assumption | exact (AH.blk_put_ne _ _ (by assumption)).trans (by assumption) | exact AH.none_put (by assumption) | exact AH.none_put (AH.none_put (by assumption)) | (simp only [AH.blk_setTok, AH.tok_put] at *; first | assumption | exact AH.none_put (by assumption)))) | (refine AH.le_putM ?_ (by first | assumption | exact (AH.mp_putM_ne _ _ (by assumption)).trans (by assumption) | (simp only [AH.mp_put, AH.mp_setTok] at *; assumption)))))⟩
  refine mz_less lo.1 lo.2.1 lo0.1 lo0.2.1 gt gh hu (fun i hi => (hb i hi).1) ?_
  rintro ⟨rfl, rfl⟩
  exact hD ⟨h1, lo.1, lo.2.1, fun i hi => ⟨lo.2.2.2.1 i hi, hu i hi⟩, fun i hi => ⟨⟨lo.2.2.2.2 i hi, (hb i hi).1⟩, (hb i hi).2⟩, hg rfl⟩
end Go.Proofs.Ytcicklmlbdfneaa
