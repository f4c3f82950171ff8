/- Calls of functions of this seat's program: the closed bounds. No condition. -/
import Derived.Test.YtcicklmlbdfneaaD8
namespace Go.Proofs.Ytcicklmlbdfneaa
open Go Go.Abs
set_option linter.unusedSimpArgs false
set_option linter.unusedVariables false
set_option maxRecDepth 20000

theorem M0_lb (a b : Nat) : -20000 ≤ M0 a b := by unfold M0; split <;> omega
theorem M0_ub (a b : Nat) : M0 a b ≤ 1099511627776 := by unfold M0; split <;> omega
theorem vc_nV {c : Cr} (hv : VC c) : nV c ≤ 15 := by have := hv.1; unfold nV; omega
/-- The numbers within the closing. -/
theorem fw_rng {c : Cr} (hv : VC c) {k i j : Nat} (hk : k < nV c) (a b a' b' : Nat) :
    InR .i64 (rowU (colU (fw (Mi c) (nV c) k) k (nV c) i) k i j a b + rowU (colU (fw (Mi c) (nV c) k) k (nV c) i) k i j a' b') := by
  have hn := vc_nV hv
  have hlb : ∀ a b, -20000 ≤ Mi c a b := lims_lb M0_lb (allC_lb hv)
  have h6 : (0 : Int) ≤ 6 ^ k * 20000 := Int.mul_nonneg (Int.le_of_lt (Int.pow_pos (by decide))) (by decide)
  have hL := ((LbI.colU (n := nV c) (k := k) h6 (fw_lb (n := nV c) (L := 20000) (by decide) hlb k) i).rowU h6 (fw_lb (n := nV c) (L := 20000) (by decide) hlb k) j).all
  have hp : (6 : Int) ^ k ≤ 78364164096 := by
    have h1 : (6 : Nat) ^ k ≤ 6 ^ 14 := Nat.pow_le_pow_right (by decide) (by omega)
    have h2 : ((6 ^ k : Nat) : Int) = (6 : Int) ^ k := by simp
    have h3 : (6 : Nat) ^ 14 = 78364164096 := by decide
    omega
  have hub : ∀ a b, rowU (colU (fw (Mi c) (nV c) k) k (nV c) i) k i j a b ≤ 1099511627776 := fun a b => by
    have h1 := rowU_le (colU (fw (Mi c) (nV c) k) k (nV c) i) k i a b j
    have h2 := colU_le (fw (Mi c) (nV c) k) k (nV c) a b i
    have h3 := fw_le (Mi c) (nV c) a b 0 k
    rw [Nat.zero_add] at h3
    have h4 : fw (Mi c) (nV c) 0 a b = Mi c a b := rfl
    have h5 : Mi c a b ≤ M0 a b := lims_le _ _ _ _
    have h6 := M0_ub a b
    omega
  have u1 := hub a b
  have u2 := hub a' b'
  have l1 := hL a b
  have l2 := hL a' b'
  rw [inR64]
  omega

set_option maxHeartbeats 1000000 in
theorem r_dating_solve (c : Cr) (hv : VC c) (h : AH) : RCall Try.prog n_dating_solve [.st c.cs] h (.tup [if Ok c then matV (nV c) (Mf c) else .sl true 0 [] .full, .bool (decide (Ok c))]) := by
  refine RCall.of hm cF_dating_solve (by simp [g_dating_solve]) fun hw h' hl => ?_
  obtain ⟨hxT, hxH, hxG⟩ := cr_lens (n := 1) (hw _ (.head _))
  have hn15 := vc_nV hv
  have hnI : (1 : Int) + (c.ty.length : Int) + (c.ho.length : Int) = (nV c : Nat) := by unfold nV; omega
  have i1 : InR .i64 ((1 : Int) + (c.ty.length : Int)) := by have := hv.1; rw [inR64]; omega
  have i2 : InR .i64 ((nV c : Nat) : Int) := by rw [inR64]; omega
  simp only [Cr.cs, F_dating_solve, g_dating_solve, go_sem, reduceIte, Nat.reduceEqDiff, Nat.reduceAdd, Nat.reduceMul, Nat.reduceSub, reduceCtorEq, Nat.reduceLeDiff, Nat.reduceLT, Int.reduceLT, Int.reduceLE, Int.reduceToNat, Int.reduceAdd, Int.reduceSub, Int.reduceNeg, Int.reduceMul, Int.reduceEq, ← Bool.decide_and, ← Bool.decide_or, ↓tq_n, ↓tq_e, ↓tq_r, ↓bq_n, ↓bq_e, ↓bq_r, ↓rq_n, ↓rq_r, ↓rq_e]
  refine AllocG.mk fun b1 hb1 => ?_
  simp only [hnI, i1, i2, F_dating_solve, g_dating_solve, go_sem, reduceIte, Nat.reduceEqDiff, Nat.reduceAdd, Nat.reduceMul, Nat.reduceSub, reduceCtorEq, Nat.reduceLeDiff, Nat.reduceLT, Int.reduceLT, Int.reduceLE, Int.reduceToNat, Int.reduceAdd, Int.reduceSub, Int.reduceNeg, Int.reduceMul, Int.reduceEq, ← Bool.decide_and, ← Bool.decide_or, ↓tq_n, ↓tq_e, ↓tq_r, ↓bq_n, ↓bq_e, ↓bq_r, ↓rq_n, ↓rq_r, ↓rq_e]
  generalize hH : h'.put b1 [AV.sl c.nlT c.ty.length (prs c.ty) c.tlT, AV.sl c.nlH c.ho.length (hds c.ho) c.tlH, AV.sl c.nlG c.ga.length (trs c.ga) c.tlG] = H
  have Hb : H.blk b1 = some [AV.sl c.nlT c.ty.length (prs c.ty) c.tlT, AV.sl c.nlH c.ho.length (hds c.ho) c.tlH, AV.sl c.nlG c.ga.length (trs c.ga) c.tlG] := by rw [← hH, AH.blk_put]
  have Hle : h'.le H := by rw [← hH]; exact (by repeat' first | exact AH.le.refl _ | assumption | (refine AH.le_put ?_ (by first | assumption | exact (AH.blk_put_ne _ _ (by assumption)).trans (by assumption) | exact AH.none_put (by assumption) | exact AH.none_put (AH.none_put (by assumption)) | (simp only [AH.blk_setTok, AH.tok_put] at *; first | assumption | exact AH.none_put (by assumption)))) | (refine AH.le_setTok ?_ (by first | assumption | exact (AH.blk_put_ne _ _ (by assumption)).trans (by assumption) | exact AH.none_put (by assumption) | exact AH.none_put (AH.none_put (by assumption)) | (simp only [AH.blk_setTok, AH.tok_put] at *; first | assumption | exact AH.none_put (by assumption)))) | (refine AH.le_putM ?_ (by first | assumption | exact (AH.mp_putM_ne _ _ (by assumption)).trans (by assumption) | (simp only [AH.mp_put, AH.mp_setTok] at *; assumption))))
  clear hH
  generalize hn : nV c = n at *
  refine MakeG.mk (by omega) (Int.le_refl _) (by omega) (by omega) fun bm hbm => ?_
  rw [Int.toNat_natCast, flat_rep]
  simp only [F_dating_solve, g_dating_solve, go_sem, reduceIte, Nat.reduceEqDiff, Nat.reduceAdd, Nat.reduceMul, Nat.reduceSub, reduceCtorEq, Nat.reduceLeDiff, Nat.reduceLT, Int.reduceLT, Int.reduceLE, Int.reduceToNat, Int.reduceAdd, Int.reduceSub, Int.reduceNeg, Int.reduceMul, Int.reduceEq, ← Bool.decide_and, ← Bool.decide_or, ↓tq_n, ↓tq_e, ↓tq_r, ↓bq_n, ↓bq_e, ↓bq_r, ↓rq_n, ↓rq_r, ↓rq_e]
  -- the rows
  refine awp_loop (α := Nat × (Nat → Nat) × AH) (fun x => [(1, .ptr b1 0), (4, I n), (5, .msl bm 0 n (some n)), (31, I n), (32, I x.1)]) (fun x => x.2.2) (fun x => x.1 ≤ n ∧ MInv H bm x.2.1 n x.1 M0 x.2.2) (fun x => n - x.1)
    (0, fun _ => 0, H.put bm (List.replicate n (.sl true 0 [] .full))) ⟨Nat.zero_le _, ?_⟩ (GStep.forget (by repeat' first | exact EnvLe.nil _ | refine EnvLe.cons (AV.le.of_eq rfl) ?_ | refine EnvLe.cons (AV.le.undef _) ?_ | refine EnvLe.cons AV.le.unk ?_) (by repeat' first | exact AH.le.refl _ | assumption | (refine AH.le_put ?_ (by first | assumption | exact (AH.blk_put_ne _ _ (by assumption)).trans (by assumption) | exact AH.none_put (by assumption) | exact AH.none_put (AH.none_put (by assumption)) | (simp only [AH.blk_setTok, AH.tok_put] at *; first | assumption | exact AH.none_put (by assumption)))) | (refine AH.le_setTok ?_ (by first | assumption | exact (AH.blk_put_ne _ _ (by assumption)).trans (by assumption) | exact AH.none_put (by assumption) | exact AH.none_put (AH.none_put (by assumption)) | (simp only [AH.blk_setTok, AH.tok_put] at *; first | assumption | exact AH.none_put (by assumption)))) | (refine AH.le_putM ?_ (by first | assumption | exact (AH.mp_putM_ne _ _ (by assumption)).trans (by assumption) | (simp only [AH.mp_put, AH.mp_setTok] at *; assumption))))) fun x hx => .of_vg hm ?_
  · show MInv H bm (fun _ => 0) n 0 M0 (H.put bm (List.replicate n (.sl true 0 [] .full)))
    refine ⟨?_, fun i hi => absurd hi (Nat.not_lt_zero _), fun i j hi => absurd hi (Nat.not_lt_zero _), fun i hi => absurd hi (Nat.not_lt_zero _), hbm, fun i hi => absurd hi (Nat.not_lt_zero _), AH.le_new _ _ hbm⟩
    rw [AH.blk_put]
    congr 1
    apply List.ext_getElem
    · simp
    · intro q h1 h2; simp [mcell]
  obtain ⟨i, B, G⟩ := x
  obtain ⟨hi, hk⟩ := hx
  simp only at hi hk ⊢
  by_cases hin : i < n
  · have hc1 : (i : Int) < (n : Int) := by omega
    simp only [hc1, F_dating_solve, g_dating_solve, go_sem, reduceIte, Nat.reduceEqDiff, Nat.reduceAdd, Nat.reduceMul, Nat.reduceSub, reduceCtorEq, Nat.reduceLeDiff, Nat.reduceLT, Int.reduceLT, Int.reduceLE, Int.reduceToNat, Int.reduceAdd, Int.reduceSub, Int.reduceNeg, Int.reduceMul, Int.reduceEq, ← Bool.decide_and, ← Bool.decide_or, ↓tq_n, ↓tq_e, ↓tq_r, ↓bq_n, ↓bq_e, ↓bq_r, ↓rq_n, ↓rq_r, ↓rq_e]
    refine CallS.mk (s_slices_Repeat 1099511627776 false .full n (by omega) G) fun r G2 hr => ?_
    obtain ⟨b, hb, rfl, rfl⟩ := hr
    have nbm : bm ≠ b := fun hh => by subst hh; rw [hk.mat] at hb; cases hb
    have hcl : ((List.range n).map (mcell B n i)).length = n := by simp
    have hi1 : i + 1 ≤ n := by omega
    have hcd : (((List.range n).map (mcell B n i)).set i (.msl b 0 n (some n))) = (List.range n).map (mcell (fun q => if q = i then b else B q) n (i + 1)) := by
      apply List.ext_getElem
      · simp
      · intro q h1 h2
        simp only [List.getElem_set, List.getElem_map, List.getElem_range, mcell]
        by_cases hq : i = q
        · subst hq; simp
        · have hq' : ¬ q = i := fun hh => hq hh.symm
          rw [if_neg hq]
          by_cases hq2 : q < i
          · rw [if_pos hq2, if_pos (by omega), if_neg hq']
          · rw [if_neg hq2, if_neg (by omega)]
    have hcd2 : ((List.range n).map (mcell (fun q => if q = i then b else B q) n (i + 1))).drop i = .msl b 0 n (some n) :: ((List.range n).map (mcell (fun q => if q = i then b else B q) n (i + 1))).drop (i + 1) :=
      drop_of_get (by simp [hin, mcell])
    have hrl : (List.replicate n (I 1099511627776)).set i (I 0) = i64s (rowL n M0 i) := by
      apply List.ext_getElem
      · simp [i64s, rowL]
      · intro q h1 h2
        simp only [List.getElem_set, List.getElem_replicate, i64s, rowL, List.getElem_map, List.getElem_range, M0]
        split <;> rfl
    simp only [AH.blk_put_ne _ _ nbm, hk.mat, hcl, hi1, hcd, hcd2, AH.blk_put_ne _ _ nbm.symm, hc1, List.length_replicate, hrl, F_dating_solve, g_dating_solve, go_sem, reduceIte, Nat.reduceEqDiff, Nat.reduceAdd, Nat.reduceMul, Nat.reduceSub, reduceCtorEq, Nat.reduceLeDiff, Nat.reduceLT, Int.reduceLT, Int.reduceLE, Int.reduceToNat, Int.reduceAdd, Int.reduceSub, Int.reduceNeg, Int.reduceMul, Int.reduceEq, ← Bool.decide_and, ← Bool.decide_or, ↓tq_n, ↓tq_e, ↓tq_r, ↓bq_n, ↓bq_e, ↓bq_r, ↓rq_n, ↓rq_r, ↓rq_e]
    refine ⟨by rw [inR64]; omega, (i + 1, fun q => if q = i then b else B q, ((G.put b (List.replicate n (I 1099511627776))).put bm ((List.range n).map (mcell (fun q => if q = i then b else B q) n (i + 1)))).put b (i64s (rowL n M0 i))), ⟨by simp only; omega, ?_⟩, by simp only; omega, (GStep.forget (by repeat' first | exact EnvLe.nil _ | refine EnvLe.cons (AV.le.of_eq rfl) ?_ | refine EnvLe.cons (AV.le.undef _) ?_ | refine EnvLe.cons AV.le.unk ?_) (by repeat' first | exact AH.le.refl _ | assumption | (refine AH.le_put ?_ (by first | assumption | exact (AH.blk_put_ne _ _ (by assumption)).trans (by assumption) | exact AH.none_put (by assumption) | exact AH.none_put (AH.none_put (by assumption)) | (simp only [AH.blk_setTok, AH.tok_put] at *; first | assumption | exact AH.none_put (by assumption)))) | (refine AH.le_setTok ?_ (by first | assumption | exact (AH.blk_put_ne _ _ (by assumption)).trans (by assumption) | exact AH.none_put (by assumption) | exact AH.none_put (AH.none_put (by assumption)) | (simp only [AH.blk_setTok, AH.tok_put] at *; first | assumption | exact AH.none_put (by assumption)))) | (refine AH.le_putM ?_ (by first | assumption | exact (AH.mp_putM_ne _ _ (by assumption)).trans (by assumption) | (simp only [AH.mp_put, AH.mp_setTok] at *; assumption)))))⟩
    simp only
    refine ⟨?_, fun a ha => ?_, fun a a' ha ha' haa => ?_, fun a ha => ?_, hbm, fun a ha => ?_, ?_⟩
    · rw [AH.blk_put_ne _ _ nbm, AH.blk_put]
    · by_cases hai : a = i
      · subst hai; simp only [if_true]; rw [AH.blk_put]
      · simp only [hai, if_false]
        have hlt : a < i := by omega
        have ne1 : B a ≠ b := fun hh => by rw [← hh, hk.row a hlt] at hb; cases hb
        rw [AH.blk_put_ne _ _ ne1, AH.blk_put_ne _ _ (hk.ne a hlt), AH.blk_put_ne _ _ ne1]
        exact hk.row a hlt
    · have nb : ∀ a, a < i → B a ≠ b := fun a hlt hh => by rw [← hh, hk.row a hlt] at hb; cases hb
      by_cases h1 : a = i
      · by_cases h2 : a' = i
        · omega
        · simp only [h1, h2, if_true, if_false] at haa
          exact absurd haa.symm (nb a' (by omega))
      · by_cases h2 : a' = i
        · simp only [h1, h2, if_true, if_false] at haa
          exact absurd haa (nb a (by omega))
        · simp only [h1, h2, if_false] at haa
          exact hk.inj a a' (by omega) (by omega) haa
    · by_cases hai : a = i
      · subst hai; simp only [if_true]; exact fun hh => nbm hh.symm
      · simp only [hai, if_false]; exact hk.ne a (by omega)
    · by_cases hai : a = i
      · subst hai; simp only [if_true]; exact AH.none_of_le hk.le hb
      · simp only [hai, if_false]; exact hk.freshR a (by omega)
    · exact AH.le_put (AH.le_put (AH.le_put hk.le (AH.none_of_le hk.le hb)) hbm) (AH.none_of_le hk.le hb)
  have hin : i = n := by omega
  subst hin
  have hG1 := hk.le.blk b1 _ Hb
  have e0 : M0 = lims M0 (tyC c 0) := rfl
  rw [e0] at hk
  have hc0 : ¬ (i : Int) < (i : Int) := by omega
  simp only [hG1, F_dating_solve, g_dating_solve, go_sem, reduceIte, Nat.reduceEqDiff, Nat.reduceAdd, Nat.reduceMul, Nat.reduceSub, reduceCtorEq, Nat.reduceLeDiff, Nat.reduceLT, Int.reduceLT, Int.reduceLE, Int.reduceToNat, Int.reduceAdd, Int.reduceSub, Int.reduceNeg, Int.reduceMul, Int.reduceEq, ← Bool.decide_and, ← Bool.decide_or, ↓tq_n, ↓tq_e, ↓tq_r, ↓bq_n, ↓bq_e, ↓bq_r, ↓rq_n, ↓rq_r, ↓rq_e]
  clear hG1 hi
  -- the types
  refine awp_loop (α := Nat × AH) (fun x => [(1, .ptr b1 0), (5, .msl bm 0 i (some i)), (49, .sl c.nlT c.ty.length (prs c.ty) c.tlT), (50, I c.ty.length), (51, I x.1)]) (fun x => x.2) (fun x => x.1 ≤ c.ty.length ∧ MInv H bm B i i (lims M0 (tyC c x.1)) x.2) (fun x => c.ty.length - x.1)
    (0, G) ⟨Nat.zero_le _, hk⟩ (GStep.forget (by repeat' first | exact EnvLe.nil _ | refine EnvLe.cons (AV.le.of_eq rfl) ?_ | refine EnvLe.cons (AV.le.undef _) ?_ | refine EnvLe.cons AV.le.unk ?_) (by repeat' first | exact AH.le.refl _ | assumption | (refine AH.le_put ?_ (by first | assumption | exact (AH.blk_put_ne _ _ (by assumption)).trans (by assumption) | exact AH.none_put (by assumption) | exact AH.none_put (AH.none_put (by assumption)) | (simp only [AH.blk_setTok, AH.tok_put] at *; first | assumption | exact AH.none_put (by assumption)))) | (refine AH.le_setTok ?_ (by first | assumption | exact (AH.blk_put_ne _ _ (by assumption)).trans (by assumption) | exact AH.none_put (by assumption) | exact AH.none_put (AH.none_put (by assumption)) | (simp only [AH.blk_setTok, AH.tok_put] at *; first | assumption | exact AH.none_put (by assumption)))) | (refine AH.le_putM ?_ (by first | assumption | exact (AH.mp_putM_ne _ _ (by assumption)).trans (by assumption) | (simp only [AH.mp_put, AH.mp_setTok] at *; assumption))))) fun x hx => .of_vg hm ?_
  clear hk
  obtain ⟨q, F⟩ := x
  obtain ⟨hq, hk⟩ := hx
  simp only at hq hk ⊢
  by_cases hqt : q < c.ty.length
  · have hc1 : (q : Int) < (c.ty.length : Int) := by omega
    have hqn : 1 + q < i := by rw [← hn]; unfold nV; omega
    have hq1 : (1 : Int) + (q : Int) = ((1 + q : Nat) : Int) := by omega
    have iq : InR .i64 ((1 + q : Nat) : Int) := by rw [inR64]; omega
    have hy := hv.2.1 q hqt
    unfold Yv at hy
    simp only [hc1, prs_drop hqt, F_dating_solve, g_dating_solve, go_sem, reduceIte, Nat.reduceEqDiff, Nat.reduceAdd, Nat.reduceMul, Nat.reduceSub, reduceCtorEq, Nat.reduceLeDiff, Nat.reduceLT, Int.reduceLT, Int.reduceLE, Int.reduceToNat, Int.reduceAdd, Int.reduceSub, Int.reduceNeg, Int.reduceMul, Int.reduceEq, ← Bool.decide_and, ← Bool.decide_or, ↓tq_n, ↓tq_e, ↓tq_r, ↓bq_n, ↓bq_e, ↓bq_r, ↓rq_n, ↓rq_r, ↓rq_e]
    refine AllocG.mk fun b8 hb8 => ?_
    have k1 := hk.other hb8 [I (c.ty.getD q (0, 0)).1, I (c.ty.getD q (0, 0)).2]
    have n0 : b8 ≠ B 0 := fun hh => by rw [hh, hk.row 0 (by omega)] at hb8; cases hb8
    simp only [hq1, iq, F_dating_solve, g_dating_solve, go_sem, reduceIte, Nat.reduceEqDiff, Nat.reduceAdd, Nat.reduceMul, Nat.reduceSub, reduceCtorEq, Nat.reduceLeDiff, Nat.reduceLT, Int.reduceLT, Int.reduceLE, Int.reduceToNat, Int.reduceAdd, Int.reduceSub, Int.reduceNeg, Int.reduceMul, Int.reduceEq, ← Bool.decide_and, ← Bool.decide_or, ↓tq_n, ↓tq_e, ↓tq_r, ↓bq_n, ↓bq_e, ↓bq_r, ↓rq_n, ↓rq_r, ↓rq_e]
    refine CallS.mk (s_dating_limit k1 (i := 0) (j := 1 + q) (by omega) hqn (c.ty.getD q (0, 0)).2) fun r F2 hr => ?_
    subst hr
    have k2 := k1.lim (i := 0) (j := 1 + q) (by omega) (c.ty.getD q (0, 0)).2
    have ineg : InR .i64 (-(c.ty.getD q (0, 0)).1) := by rw [inR64]; omega
    simp only [hq1, iq, AH.blk_put_ne _ _ n0, ineg, F_dating_solve, g_dating_solve, go_sem, reduceIte, Nat.reduceEqDiff, Nat.reduceAdd, Nat.reduceMul, Nat.reduceSub, reduceCtorEq, Nat.reduceLeDiff, Nat.reduceLT, Int.reduceLT, Int.reduceLE, Int.reduceToNat, Int.reduceAdd, Int.reduceSub, Int.reduceNeg, Int.reduceMul, Int.reduceEq, ← Bool.decide_and, ← Bool.decide_or, ↓tq_n, ↓tq_e, ↓tq_r, ↓bq_n, ↓bq_e, ↓bq_r, ↓rq_n, ↓rq_r, ↓rq_e]
    refine CallS.mk (s_dating_limit k2 (i := 1 + q) (j := 0) hqn (by omega) (-(c.ty.getD q (0, 0)).1)) fun r F3 hr => ?_
    subst hr
    have k3 := k2.lim (i := 1 + q) (j := 0) hqn (-(c.ty.getD q (0, 0)).1)
    simp only [F_dating_solve, g_dating_solve, go_sem, reduceIte, Nat.reduceEqDiff, Nat.reduceAdd, Nat.reduceMul, Nat.reduceSub, reduceCtorEq, Nat.reduceLeDiff, Nat.reduceLT, Int.reduceLT, Int.reduceLE, Int.reduceToNat, Int.reduceAdd, Int.reduceSub, Int.reduceNeg, Int.reduceMul, Int.reduceEq, ← Bool.decide_and, ← Bool.decide_or, ↓tq_n, ↓tq_e, ↓tq_r, ↓bq_n, ↓bq_e, ↓bq_r, ↓rq_n, ↓rq_r, ↓rq_e]
    refine ⟨by rw [inR64]; omega, (q + 1, _), ⟨by simp only; omega, ?_⟩, by simp only; omega, (GStep.forget (by repeat' first | exact EnvLe.nil _ | refine EnvLe.cons (AV.le.of_eq rfl) ?_ | refine EnvLe.cons (AV.le.undef _) ?_ | refine EnvLe.cons AV.le.unk ?_) (by repeat' first | exact AH.le.refl _ | assumption | (refine AH.le_put ?_ (by first | assumption | exact (AH.blk_put_ne _ _ (by assumption)).trans (by assumption) | exact AH.none_put (by assumption) | exact AH.none_put (AH.none_put (by assumption)) | (simp only [AH.blk_setTok, AH.tok_put] at *; first | assumption | exact AH.none_put (by assumption)))) | (refine AH.le_setTok ?_ (by first | assumption | exact (AH.blk_put_ne _ _ (by assumption)).trans (by assumption) | exact AH.none_put (by assumption) | exact AH.none_put (AH.none_put (by assumption)) | (simp only [AH.blk_setTok, AH.tok_put] at *; first | assumption | exact AH.none_put (by assumption)))) | (refine AH.le_putM ?_ (by first | assumption | exact (AH.mp_putM_ne _ _ (by assumption)).trans (by assumption) | (simp only [AH.mp_put, AH.mp_setTok] at *; assumption)))))⟩
    have : lims M0 (tyC c (q + 1)) = lim (lim (lims M0 (tyC c q)) 0 (1 + q) (c.ty.getD q (0, 0)).2) (1 + q) 0 (-(c.ty.getD q (0, 0)).1) := by
      simp only [tyC, lims_append]; rfl
    rw [this]; exact k3
  have hqt : q = c.ty.length := by omega
  subst hqt
  clear hq
  have hG1 := hk.le.blk b1 _ Hb
  have e0 : lims M0 (tyC c c.ty.length) = lims M0 (tyC c c.ty.length ++ hoC c 0) := by simp [hoC]
  rw [e0] at hk
  simp only [hG1, F_dating_solve, g_dating_solve, go_sem, reduceIte, Nat.reduceEqDiff, Nat.reduceAdd, Nat.reduceMul, Nat.reduceSub, reduceCtorEq, Nat.reduceLeDiff, Nat.reduceLT, Int.reduceLT, Int.reduceLE, Int.reduceToNat, Int.reduceAdd, Int.reduceSub, Int.reduceNeg, Int.reduceMul, Int.reduceEq, ← Bool.decide_and, ← Bool.decide_or, ↓tq_n, ↓tq_e, ↓tq_r, ↓bq_n, ↓bq_e, ↓bq_r, ↓rq_n, ↓rq_r, ↓rq_e]
  clear hG1
  -- the hoards
  refine awp_loop (α := Nat × AH) (fun x => [(1, .ptr b1 0), (5, .msl bm 0 i (some i)), (71, .sl c.nlH c.ho.length (hds c.ho) c.tlH), (72, I c.ho.length), (73, I x.1)]) (fun x => x.2) (fun x => x.1 ≤ c.ho.length ∧ MInv H bm B i i (lims M0 (tyC c c.ty.length ++ hoC c x.1)) x.2) (fun x => c.ho.length - x.1)
    (0, F) ⟨Nat.zero_le _, hk⟩ (GStep.forget (by repeat' first | exact EnvLe.nil _ | refine EnvLe.cons (AV.le.of_eq rfl) ?_ | refine EnvLe.cons (AV.le.undef _) ?_ | refine EnvLe.cons AV.le.unk ?_) (by repeat' first | exact AH.le.refl _ | assumption | (refine AH.le_put ?_ (by first | assumption | exact (AH.blk_put_ne _ _ (by assumption)).trans (by assumption) | exact AH.none_put (by assumption) | exact AH.none_put (AH.none_put (by assumption)) | (simp only [AH.blk_setTok, AH.tok_put] at *; first | assumption | exact AH.none_put (by assumption)))) | (refine AH.le_setTok ?_ (by first | assumption | exact (AH.blk_put_ne _ _ (by assumption)).trans (by assumption) | exact AH.none_put (by assumption) | exact AH.none_put (AH.none_put (by assumption)) | (simp only [AH.blk_setTok, AH.tok_put] at *; first | assumption | exact AH.none_put (by assumption)))) | (refine AH.le_putM ?_ (by first | assumption | exact (AH.mp_putM_ne _ _ (by assumption)).trans (by assumption) | (simp only [AH.mp_put, AH.mp_setTok] at *; assumption))))) fun x hx => .of_vg hm ?_
  clear hk
  obtain ⟨q, F1⟩ := x
  obtain ⟨hq, hk⟩ := hx
  simp only at hq hk ⊢
  by_cases hqt : q < c.ho.length
  · have hc1 : (q : Int) < (c.ho.length : Int) := by omega
    obtain ⟨p, hp⟩ : ∃ p, 1 + c.ty.length + q = p := ⟨_, rfl⟩
    have hpn : p < i := by rw [← hn]; unfold nV; omega
    have hpI : (1 : Int) + (c.ty.length : Int) + (q : Int) = (p : Int) := by omega
    have ip : InR .i64 (p : Int) := by rw [inR64]; omega
    have hy := (hv.2.2.1 q hqt).1.2.2.2
    have hcoin := fun j hj => vc_coin hv (j := j) hqt hj
    have hcl := (hv.2.2.1 q hqt).1.2.1
    unfold Yv at hy
    simp only [hc1, hds_drop hqt, F_dating_solve, g_dating_solve, go_sem, reduceIte, Nat.reduceEqDiff, Nat.reduceAdd, Nat.reduceMul, Nat.reduceSub, reduceCtorEq, Nat.reduceLeDiff, Nat.reduceLT, Int.reduceLT, Int.reduceLE, Int.reduceToNat, Int.reduceAdd, Int.reduceSub, Int.reduceNeg, Int.reduceMul, Int.reduceEq, ← Bool.decide_and, ← Bool.decide_or, ↓tq_n, ↓tq_e, ↓tq_r, ↓bq_n, ↓bq_e, ↓bq_r, ↓rq_n, ↓rq_r, ↓rq_e]
    refine AllocG.mk fun b8 hb8 => ?_
    have ehoc : hoC c (q + 1) = hoC c q ++ ([(0, p, (c.ho.getD q dH).cl.2), (p, 0, -(c.ho.getD q dH).cl.1)] ++ coC (c.ho.getD q dH) p (c.ho.getD q dH).coins.length) := by rw [← hp]; rfl
    generalize c.ho.getD q dH = x at *
    have k1 := hk.other hb8 [I x.id, .sl x.nl x.coins.length (prs x.coins) x.tl, I x.cl.1, I x.cl.2]
    have n0 : b8 ≠ B 0 := fun hh => by rw [hh, hk.row 0 (by omega)] at hb8; cases hb8
    have n1 : b8 ≠ B p := fun hh => by rw [hh, hk.row p hpn] at hb8; cases hb8
    have h81 : b8 ≠ b1 := fun hh => by rw [hh, hk.le.blk b1 _ Hb] at hb8; cases hb8
    have hG1 := k1.le.blk b1 _ Hb
    rw [AH.blk_put_ne _ _ h81.symm] at hG1
    simp only [AH.blk_put_ne _ _ h81.symm, hG1, i1, hpI, ip, F_dating_solve, g_dating_solve, go_sem, reduceIte, Nat.reduceEqDiff, Nat.reduceAdd, Nat.reduceMul, Nat.reduceSub, reduceCtorEq, Nat.reduceLeDiff, Nat.reduceLT, Int.reduceLT, Int.reduceLE, Int.reduceToNat, Int.reduceAdd, Int.reduceSub, Int.reduceNeg, Int.reduceMul, Int.reduceEq, ← Bool.decide_and, ← Bool.decide_or, ↓tq_n, ↓tq_e, ↓tq_r, ↓bq_n, ↓bq_e, ↓bq_r, ↓rq_n, ↓rq_r, ↓rq_e]
    refine CallS.mk (s_dating_limit k1 (i := 0) (j := p) (by omega) hpn x.cl.2) fun r F2 hr => ?_
    subst hr
    have k2 := k1.lim (i := 0) (j := p) (by omega) x.cl.2
    have ineg : InR .i64 (-x.cl.1) := by rw [inR64]; omega
    simp only [AH.blk_put_ne _ _ n0, ineg, F_dating_solve, g_dating_solve, go_sem, reduceIte, Nat.reduceEqDiff, Nat.reduceAdd, Nat.reduceMul, Nat.reduceSub, reduceCtorEq, Nat.reduceLeDiff, Nat.reduceLT, Int.reduceLT, Int.reduceLE, Int.reduceToNat, Int.reduceAdd, Int.reduceSub, Int.reduceNeg, Int.reduceMul, Int.reduceEq, ← Bool.decide_and, ← Bool.decide_or, ↓tq_n, ↓tq_e, ↓tq_r, ↓bq_n, ↓bq_e, ↓bq_r, ↓rq_n, ↓rq_r, ↓rq_e]
    refine CallS.mk (s_dating_limit k2 (i := p) (j := 0) hpn (by omega) (-x.cl.1)) fun r F3 hr => ?_
    subst hr
    have k3 := k2.lim (i := p) (j := 0) hpn (-x.cl.1)
    simp only [AH.blk_put_ne _ _ n0, AH.blk_put_ne _ _ n1, F_dating_solve, g_dating_solve, go_sem, reduceIte, Nat.reduceEqDiff, Nat.reduceAdd, Nat.reduceMul, Nat.reduceSub, reduceCtorEq, Nat.reduceLeDiff, Nat.reduceLT, Int.reduceLT, Int.reduceLE, Int.reduceToNat, Int.reduceAdd, Int.reduceSub, Int.reduceNeg, Int.reduceMul, Int.reduceEq, ← Bool.decide_and, ← Bool.decide_or, ↓tq_n, ↓tq_e, ↓tq_r, ↓bq_n, ↓bq_e, ↓bq_r, ↓rq_n, ↓rq_r, ↓rq_e]
    -- its coins
    have e3 : lim (lim (lims M0 (tyC c c.ty.length ++ hoC c q)) 0 p x.cl.2) p 0 (-x.cl.1) = lims M0 (tyC c c.ty.length ++ hoC c q ++ [(0, p, x.cl.2), (p, 0, -x.cl.1)] ++ coC x p 0) := by
      simp only [coC, List.append_nil, lims_append]; rfl
    have k3 := k3.cast e3
    refine awp_loop (α := Nat × AH) (fun y => [(1, .ptr b1 0), (5, .msl bm 0 i (some i)), (11, I p), (71, .sl c.nlH c.ho.length (hds c.ho) c.tlH), (72, I c.ho.length), (73, I q), (98, .sl x.nl x.coins.length (prs x.coins) x.tl), (99, I x.coins.length), (100, I y.1)]) (fun y => y.2)
      (fun y => y.1 ≤ x.coins.length ∧ MInv H bm B i i (lims M0 (tyC c c.ty.length ++ hoC c q ++ [(0, p, x.cl.2), (p, 0, -x.cl.1)] ++ coC x p y.1)) y.2) (fun y => x.coins.length - y.1)
      (0, _) ⟨Nat.zero_le _, k3⟩ (GStep.forget (by repeat' first | exact EnvLe.nil _ | refine EnvLe.cons (AV.le.of_eq rfl) ?_ | refine EnvLe.cons (AV.le.undef _) ?_ | refine EnvLe.cons AV.le.unk ?_) (by repeat' first | exact AH.le.refl _ | assumption | (refine AH.le_put ?_ (by first | assumption | exact (AH.blk_put_ne _ _ (by assumption)).trans (by assumption) | exact AH.none_put (by assumption) | exact AH.none_put (AH.none_put (by assumption)) | (simp only [AH.blk_setTok, AH.tok_put] at *; first | assumption | exact AH.none_put (by assumption)))) | (refine AH.le_setTok ?_ (by first | assumption | exact (AH.blk_put_ne _ _ (by assumption)).trans (by assumption) | exact AH.none_put (by assumption) | exact AH.none_put (AH.none_put (by assumption)) | (simp only [AH.blk_setTok, AH.tok_put] at *; first | assumption | exact AH.none_put (by assumption)))) | (refine AH.le_putM ?_ (by first | assumption | exact (AH.mp_putM_ne _ _ (by assumption)).trans (by assumption) | (simp only [AH.mp_put, AH.mp_setTok] at *; assumption))))) fun y hy' => .of_vg hm ?_
    clear k1 k2 k3
    obtain ⟨j, F4⟩ := y
    obtain ⟨hj, k4⟩ := hy'
    simp only at hj k4 ⊢
    by_cases hjc : j < x.coins.length
    · have hc2 : (j : Int) < (x.coins.length : Int) := by omega
      have hco := hcoin j hjc
      obtain ⟨ky, hky⟩ : ∃ ky : Nat, (x.coins.getD j (0, 0)).1 = ky := ⟨(x.coins.getD j (0, 0)).1.toNat, by omega⟩
      have hkyn : ky < i := by rw [← hn]; unfold nV; omega
      simp only [hc2, prs_drop hjc, hky, F_dating_solve, g_dating_solve, go_sem, reduceIte, Nat.reduceEqDiff, Nat.reduceAdd, Nat.reduceMul, Nat.reduceSub, reduceCtorEq, Nat.reduceLeDiff, Nat.reduceLT, Int.reduceLT, Int.reduceLE, Int.reduceToNat, Int.reduceAdd, Int.reduceSub, Int.reduceNeg, Int.reduceMul, Int.reduceEq, ← Bool.decide_and, ← Bool.decide_or, ↓tq_n, ↓tq_e, ↓tq_r, ↓bq_n, ↓bq_e, ↓bq_r, ↓rq_n, ↓rq_r, ↓rq_e]
      refine AllocG.mk fun b9 hb9 => ?_
      have k5 := k4.other hb9 [I ky, I (x.coins.getD j (0, 0)).2]
      simp only [F_dating_solve, g_dating_solve, go_sem, reduceIte, Nat.reduceEqDiff, Nat.reduceAdd, Nat.reduceMul, Nat.reduceSub, reduceCtorEq, Nat.reduceLeDiff, Nat.reduceLT, Int.reduceLT, Int.reduceLE, Int.reduceToNat, Int.reduceAdd, Int.reduceSub, Int.reduceNeg, Int.reduceMul, Int.reduceEq, ← Bool.decide_and, ← Bool.decide_or, ↓tq_n, ↓tq_e, ↓tq_r, ↓bq_n, ↓bq_e, ↓bq_r, ↓rq_n, ↓rq_r, ↓rq_e]
      refine CallS.mk (s_dating_limit k5 (i := p) (j := ky) hpn hkyn 0) fun r F5 hr => ?_
      subst hr
      have k6 := k5.lim (i := p) (j := ky) hpn 0
      simp only [F_dating_solve, g_dating_solve, go_sem, reduceIte, Nat.reduceEqDiff, Nat.reduceAdd, Nat.reduceMul, Nat.reduceSub, reduceCtorEq, Nat.reduceLeDiff, Nat.reduceLT, Int.reduceLT, Int.reduceLE, Int.reduceToNat, Int.reduceAdd, Int.reduceSub, Int.reduceNeg, Int.reduceMul, Int.reduceEq, ← Bool.decide_and, ← Bool.decide_or, ↓tq_n, ↓tq_e, ↓tq_r, ↓bq_n, ↓bq_e, ↓bq_r, ↓rq_n, ↓rq_r, ↓rq_e]
      refine ⟨by rw [inR64]; omega, (j + 1, _), ⟨by simp only; omega, ?_⟩, by simp only; omega, (GStep.forget (by repeat' first | exact EnvLe.nil _ | refine EnvLe.cons (AV.le.of_eq rfl) ?_ | refine EnvLe.cons (AV.le.undef _) ?_ | refine EnvLe.cons AV.le.unk ?_) (by repeat' first | exact AH.le.refl _ | assumption | (refine AH.le_put ?_ (by first | assumption | exact (AH.blk_put_ne _ _ (by assumption)).trans (by assumption) | exact AH.none_put (by assumption) | exact AH.none_put (AH.none_put (by assumption)) | (simp only [AH.blk_setTok, AH.tok_put] at *; first | assumption | exact AH.none_put (by assumption)))) | (refine AH.le_setTok ?_ (by first | assumption | exact (AH.blk_put_ne _ _ (by assumption)).trans (by assumption) | exact AH.none_put (by assumption) | exact AH.none_put (AH.none_put (by assumption)) | (simp only [AH.blk_setTok, AH.tok_put] at *; first | assumption | exact AH.none_put (by assumption)))) | (refine AH.le_putM ?_ (by first | assumption | exact (AH.mp_putM_ne _ _ (by assumption)).trans (by assumption) | (simp only [AH.mp_put, AH.mp_setTok] at *; assumption)))))⟩
      have : lims M0 (tyC c c.ty.length ++ hoC c q ++ [(0, p, x.cl.2), (p, 0, -x.cl.1)] ++ coC x p (j + 1)) = lim (lims M0 (tyC c c.ty.length ++ hoC c q ++ [(0, p, x.cl.2), (p, 0, -x.cl.1)] ++ coC x p j)) p ky 0 := by
        simp only [coC, ← List.append_assoc, lims_append, lims_one, hky, Int.toNat_natCast]
      rw [this]; exact k6
    · have hjc : j = x.coins.length := by omega
      subst hjc
      simp only [F_dating_solve, g_dating_solve, go_sem, reduceIte, Nat.reduceEqDiff, Nat.reduceAdd, Nat.reduceMul, Nat.reduceSub, reduceCtorEq, Nat.reduceLeDiff, Nat.reduceLT, Int.reduceLT, Int.reduceLE, Int.reduceToNat, Int.reduceAdd, Int.reduceSub, Int.reduceNeg, Int.reduceMul, Int.reduceEq, ← Bool.decide_and, ← Bool.decide_or, ↓tq_n, ↓tq_e, ↓tq_r, ↓bq_n, ↓bq_e, ↓bq_r, ↓rq_n, ↓rq_r, ↓rq_e]
      refine ⟨by rw [inR64]; omega, (q + 1, _), ⟨by simp only; omega, ?_⟩, by simp only; omega, (GStep.forget (by repeat' first | exact EnvLe.nil _ | refine EnvLe.cons (AV.le.of_eq rfl) ?_ | refine EnvLe.cons (AV.le.undef _) ?_ | refine EnvLe.cons AV.le.unk ?_) (by repeat' first | exact AH.le.refl _ | assumption | (refine AH.le_put ?_ (by first | assumption | exact (AH.blk_put_ne _ _ (by assumption)).trans (by assumption) | exact AH.none_put (by assumption) | exact AH.none_put (AH.none_put (by assumption)) | (simp only [AH.blk_setTok, AH.tok_put] at *; first | assumption | exact AH.none_put (by assumption)))) | (refine AH.le_setTok ?_ (by first | assumption | exact (AH.blk_put_ne _ _ (by assumption)).trans (by assumption) | exact AH.none_put (by assumption) | exact AH.none_put (AH.none_put (by assumption)) | (simp only [AH.blk_setTok, AH.tok_put] at *; first | assumption | exact AH.none_put (by assumption)))) | (refine AH.le_putM ?_ (by first | assumption | exact (AH.mp_putM_ne _ _ (by assumption)).trans (by assumption) | (simp only [AH.mp_put, AH.mp_setTok] at *; assumption)))))⟩
      rw [ehoc]
      simp only [← List.append_assoc]
      exact k4
  have hqt : q = c.ho.length := by omega
  subst hqt
  clear hq
  have hG1 := hk.le.blk b1 _ Hb
  have e0 : lims M0 (tyC c c.ty.length ++ hoC c c.ho.length) = lims M0 (tyC c c.ty.length ++ hoC c c.ho.length ++ gaC c 0) := by simp [gaC]
  rw [e0] at hk
  simp only [hG1, F_dating_solve, g_dating_solve, go_sem, reduceIte, Nat.reduceEqDiff, Nat.reduceAdd, Nat.reduceMul, Nat.reduceSub, reduceCtorEq, Nat.reduceLeDiff, Nat.reduceLT, Int.reduceLT, Int.reduceLE, Int.reduceToNat, Int.reduceAdd, Int.reduceSub, Int.reduceNeg, Int.reduceMul, Int.reduceEq, ← Bool.decide_and, ← Bool.decide_or, ↓tq_n, ↓tq_e, ↓tq_r, ↓bq_n, ↓bq_e, ↓bq_r, ↓rq_n, ↓rq_r, ↓rq_e]
  clear hG1
  -- the gaps
  refine awp_loop (α := Nat × AH) (fun x => [(1, .ptr b1 0), (5, .msl bm 0 i (some i)), (112, .sl c.nlG c.ga.length (trs c.ga) c.tlG), (113, I c.ga.length), (114, I x.1)]) (fun x => x.2) (fun x => x.1 ≤ c.ga.length ∧ MInv H bm B i i (lims M0 (tyC c c.ty.length ++ hoC c c.ho.length ++ gaC c x.1)) x.2) (fun x => c.ga.length - x.1)
    (0, F1) ⟨Nat.zero_le _, hk⟩ (GStep.forget (by repeat' first | exact EnvLe.nil _ | refine EnvLe.cons (AV.le.of_eq rfl) ?_ | refine EnvLe.cons (AV.le.undef _) ?_ | refine EnvLe.cons AV.le.unk ?_) (by repeat' first | exact AH.le.refl _ | assumption | (refine AH.le_put ?_ (by first | assumption | exact (AH.blk_put_ne _ _ (by assumption)).trans (by assumption) | exact AH.none_put (by assumption) | exact AH.none_put (AH.none_put (by assumption)) | (simp only [AH.blk_setTok, AH.tok_put] at *; first | assumption | exact AH.none_put (by assumption)))) | (refine AH.le_setTok ?_ (by first | assumption | exact (AH.blk_put_ne _ _ (by assumption)).trans (by assumption) | exact AH.none_put (by assumption) | exact AH.none_put (AH.none_put (by assumption)) | (simp only [AH.blk_setTok, AH.tok_put] at *; first | assumption | exact AH.none_put (by assumption)))) | (refine AH.le_putM ?_ (by first | assumption | exact (AH.mp_putM_ne _ _ (by assumption)).trans (by assumption) | (simp only [AH.mp_put, AH.mp_setTok] at *; assumption))))) fun x hx => .of_vg hm ?_
  clear hk
  obtain ⟨q, F2⟩ := x
  obtain ⟨hq, hk⟩ := hx
  simp only at hq hk ⊢
  by_cases hqt : q < c.ga.length
  · have hc1 : (q : Int) < (c.ga.length : Int) := by omega
    have hg := hv.2.2.2 q hqt
    unfold gOK at hg
    have egac : gaC c (q + 1) = gaC c q ++ [((c.ga.getD q (0, 0, 0)).1.toNat, (c.ga.getD q (0, 0, 0)).2.1.toNat, (c.ga.getD q (0, 0, 0)).2.2)] := rfl
    simp only [hc1, trs_drop hqt, F_dating_solve, g_dating_solve, go_sem, reduceIte, Nat.reduceEqDiff, Nat.reduceAdd, Nat.reduceMul, Nat.reduceSub, reduceCtorEq, Nat.reduceLeDiff, Nat.reduceLT, Int.reduceLT, Int.reduceLE, Int.reduceToNat, Int.reduceAdd, Int.reduceSub, Int.reduceNeg, Int.reduceMul, Int.reduceEq, ← Bool.decide_and, ← Bool.decide_or, ↓tq_n, ↓tq_e, ↓tq_r, ↓bq_n, ↓bq_e, ↓bq_r, ↓rq_n, ↓rq_r, ↓rq_e]
    refine AllocG.mk fun b8 hb8 => ?_
    obtain ⟨g1, hg1⟩ : ∃ g1 : Nat, (c.ga.getD q (0, 0, 0)).1 = g1 := ⟨(c.ga.getD q (0, 0, 0)).1.toNat, by omega⟩
    obtain ⟨g2, hg2⟩ : ∃ g2 : Nat, (c.ga.getD q (0, 0, 0)).2.1 = g2 := ⟨(c.ga.getD q (0, 0, 0)).2.1.toNat, by omega⟩
    rw [hg1, hg2] at hg egac ⊢
    have g1n : g1 < i := by rw [← hn]; unfold nV; omega
    have g2n : g2 < i := by rw [← hn]; unfold nV; omega
    have k1 := hk.other hb8 [I g1, I g2, I (c.ga.getD q (0, 0, 0)).2.2]
    simp only [F_dating_solve, g_dating_solve, go_sem, reduceIte, Nat.reduceEqDiff, Nat.reduceAdd, Nat.reduceMul, Nat.reduceSub, reduceCtorEq, Nat.reduceLeDiff, Nat.reduceLT, Int.reduceLT, Int.reduceLE, Int.reduceToNat, Int.reduceAdd, Int.reduceSub, Int.reduceNeg, Int.reduceMul, Int.reduceEq, ← Bool.decide_and, ← Bool.decide_or, ↓tq_n, ↓tq_e, ↓tq_r, ↓bq_n, ↓bq_e, ↓bq_r, ↓rq_n, ↓rq_r, ↓rq_e]
    refine CallS.mk (s_dating_limit k1 (i := g1) (j := g2) g1n g2n (c.ga.getD q (0, 0, 0)).2.2) fun r F3 hr => ?_
    subst hr
    have k2 := k1.lim (i := g1) (j := g2) g1n (c.ga.getD q (0, 0, 0)).2.2
    simp only [F_dating_solve, g_dating_solve, go_sem, reduceIte, Nat.reduceEqDiff, Nat.reduceAdd, Nat.reduceMul, Nat.reduceSub, reduceCtorEq, Nat.reduceLeDiff, Nat.reduceLT, Int.reduceLT, Int.reduceLE, Int.reduceToNat, Int.reduceAdd, Int.reduceSub, Int.reduceNeg, Int.reduceMul, Int.reduceEq, ← Bool.decide_and, ← Bool.decide_or, ↓tq_n, ↓tq_e, ↓tq_r, ↓bq_n, ↓bq_e, ↓bq_r, ↓rq_n, ↓rq_r, ↓rq_e]
    refine ⟨by rw [inR64]; omega, (q + 1, _), ⟨by simp only; omega, ?_⟩, by simp only; omega, (GStep.forget (by repeat' first | exact EnvLe.nil _ | refine EnvLe.cons (AV.le.of_eq rfl) ?_ | refine EnvLe.cons (AV.le.undef _) ?_ | refine EnvLe.cons AV.le.unk ?_) (by repeat' first | exact AH.le.refl _ | assumption | (refine AH.le_put ?_ (by first | assumption | exact (AH.blk_put_ne _ _ (by assumption)).trans (by assumption) | exact AH.none_put (by assumption) | exact AH.none_put (AH.none_put (by assumption)) | (simp only [AH.blk_setTok, AH.tok_put] at *; first | assumption | exact AH.none_put (by assumption)))) | (refine AH.le_setTok ?_ (by first | assumption | exact (AH.blk_put_ne _ _ (by assumption)).trans (by assumption) | exact AH.none_put (by assumption) | exact AH.none_put (AH.none_put (by assumption)) | (simp only [AH.blk_setTok, AH.tok_put] at *; first | assumption | exact AH.none_put (by assumption)))) | (refine AH.le_putM ?_ (by first | assumption | exact (AH.mp_putM_ne _ _ (by assumption)).trans (by assumption) | (simp only [AH.mp_put, AH.mp_setTok] at *; assumption)))))⟩
    rw [egac]
    simp only [← List.append_assoc, lims_append _ _ [_], lims_one, Int.toNat_natCast]
    exact k2
  have hqt : q = c.ga.length := by omega
  subst hqt
  clear hq
  have e0 : lims M0 (tyC c c.ty.length ++ hoC c c.ho.length ++ gaC c c.ga.length) = fw (Mi c) i 0 := by
    simp only [Mi, allC, fw, List.append_assoc]
  rw [e0] at hk
  simp only [F_dating_solve, g_dating_solve, go_sem, reduceIte, Nat.reduceEqDiff, Nat.reduceAdd, Nat.reduceMul, Nat.reduceSub, reduceCtorEq, Nat.reduceLeDiff, Nat.reduceLT, Int.reduceLT, Int.reduceLE, Int.reduceToNat, Int.reduceAdd, Int.reduceSub, Int.reduceNeg, Int.reduceMul, Int.reduceEq, ← Bool.decide_and, ← Bool.decide_or, ↓tq_n, ↓tq_e, ↓tq_r, ↓bq_n, ↓bq_e, ↓bq_r, ↓rq_n, ↓rq_r, ↓rq_e]
  -- the closing
  refine awp_loop (α := Nat × AH) (fun x => [(5, .msl bm 0 i (some i)), (128, I i), (129, I x.1)]) (fun x => x.2) (fun x => x.1 ≤ i ∧ MInv H bm B i i (fw (Mi c) i x.1) x.2) (fun x => i - x.1) (0, F2) ⟨Nat.zero_le _, hk⟩ (GStep.forget (by repeat' first | exact EnvLe.nil _ | refine EnvLe.cons (AV.le.of_eq rfl) ?_ | refine EnvLe.cons (AV.le.undef _) ?_ | refine EnvLe.cons AV.le.unk ?_) (by repeat' first | exact AH.le.refl _ | assumption | (refine AH.le_put ?_ (by first | assumption | exact (AH.blk_put_ne _ _ (by assumption)).trans (by assumption) | exact AH.none_put (by assumption) | exact AH.none_put (AH.none_put (by assumption)) | (simp only [AH.blk_setTok, AH.tok_put] at *; first | assumption | exact AH.none_put (by assumption)))) | (refine AH.le_setTok ?_ (by first | assumption | exact (AH.blk_put_ne _ _ (by assumption)).trans (by assumption) | exact AH.none_put (by assumption) | exact AH.none_put (AH.none_put (by assumption)) | (simp only [AH.blk_setTok, AH.tok_put] at *; first | assumption | exact AH.none_put (by assumption)))) | (refine AH.le_putM ?_ (by first | assumption | exact (AH.mp_putM_ne _ _ (by assumption)).trans (by assumption) | (simp only [AH.mp_put, AH.mp_setTok] at *; assumption))))) fun x hx => .of_vg hm ?_
  clear hk
  obtain ⟨k, F3⟩ := x
  obtain ⟨hkn, hk⟩ := hx
  simp only at hkn hk ⊢
  by_cases hki : k < i
  · have hc1 : (k : Int) < (i : Int) := by omega
    simp only [hc1, F_dating_solve, g_dating_solve, go_sem, reduceIte, Nat.reduceEqDiff, Nat.reduceAdd, Nat.reduceMul, Nat.reduceSub, reduceCtorEq, Nat.reduceLeDiff, Nat.reduceLT, Int.reduceLT, Int.reduceLE, Int.reduceToNat, Int.reduceAdd, Int.reduceSub, Int.reduceNeg, Int.reduceMul, Int.reduceEq, ← Bool.decide_and, ← Bool.decide_or, ↓tq_n, ↓tq_e, ↓tq_r, ↓bq_n, ↓bq_e, ↓bq_r, ↓rq_n, ↓rq_r, ↓rq_e]
    refine awp_loop (α := Nat × AH) (fun x => [(5, .msl bm 0 i (some i)), (16, I k), (128, I i), (129, I k), (133, I i), (134, I x.1)]) (fun x => x.2) (fun x => x.1 ≤ i ∧ MInv H bm B i i (colU (fw (Mi c) i k) k i x.1) x.2) (fun x => i - x.1) (0, F3) ⟨Nat.zero_le _, hk⟩ (GStep.forget (by repeat' first | exact EnvLe.nil _ | refine EnvLe.cons (AV.le.of_eq rfl) ?_ | refine EnvLe.cons (AV.le.undef _) ?_ | refine EnvLe.cons AV.le.unk ?_) (by repeat' first | exact AH.le.refl _ | assumption | (refine AH.le_put ?_ (by first | assumption | exact (AH.blk_put_ne _ _ (by assumption)).trans (by assumption) | exact AH.none_put (by assumption) | exact AH.none_put (AH.none_put (by assumption)) | (simp only [AH.blk_setTok, AH.tok_put] at *; first | assumption | exact AH.none_put (by assumption)))) | (refine AH.le_setTok ?_ (by first | assumption | exact (AH.blk_put_ne _ _ (by assumption)).trans (by assumption) | exact AH.none_put (by assumption) | exact AH.none_put (AH.none_put (by assumption)) | (simp only [AH.blk_setTok, AH.tok_put] at *; first | assumption | exact AH.none_put (by assumption)))) | (refine AH.le_putM ?_ (by first | assumption | exact (AH.mp_putM_ne _ _ (by assumption)).trans (by assumption) | (simp only [AH.mp_put, AH.mp_setTok] at *; assumption))))) fun x hx => .of_vg hm ?_
    clear hk
    obtain ⟨r, F4⟩ := x
    obtain ⟨hrn, hk⟩ := hx
    simp only at hrn hk ⊢
    by_cases hri : r < i
    · have hc2 : (r : Int) < (i : Int) := by omega
      simp only [hc2, F_dating_solve, g_dating_solve, go_sem, reduceIte, Nat.reduceEqDiff, Nat.reduceAdd, Nat.reduceMul, Nat.reduceSub, reduceCtorEq, Nat.reduceLeDiff, Nat.reduceLT, Int.reduceLT, Int.reduceLE, Int.reduceToNat, Int.reduceAdd, Int.reduceSub, Int.reduceNeg, Int.reduceMul, Int.reduceEq, ← Bool.decide_and, ← Bool.decide_or, ↓tq_n, ↓tq_e, ↓tq_r, ↓bq_n, ↓bq_e, ↓bq_r, ↓rq_n, ↓rq_r, ↓rq_e]
      refine awp_loop (α := Nat × AH) (fun x => [(5, .msl bm 0 i (some i)), (16, I k), (17, I r), (128, I i), (129, I k), (133, I i), (134, I r), (138, I i), (139, I x.1)]) (fun x => x.2) (fun x => x.1 ≤ i ∧ MInv H bm B i i (rowU (colU (fw (Mi c) i k) k i r) k r x.1) x.2) (fun x => i - x.1) (0, F4) ⟨Nat.zero_le _, hk⟩ (GStep.forget (by repeat' first | exact EnvLe.nil _ | refine EnvLe.cons (AV.le.of_eq rfl) ?_ | refine EnvLe.cons (AV.le.undef _) ?_ | refine EnvLe.cons AV.le.unk ?_) (by repeat' first | exact AH.le.refl _ | assumption | (refine AH.le_put ?_ (by first | assumption | exact (AH.blk_put_ne _ _ (by assumption)).trans (by assumption) | exact AH.none_put (by assumption) | exact AH.none_put (AH.none_put (by assumption)) | (simp only [AH.blk_setTok, AH.tok_put] at *; first | assumption | exact AH.none_put (by assumption)))) | (refine AH.le_setTok ?_ (by first | assumption | exact (AH.blk_put_ne _ _ (by assumption)).trans (by assumption) | exact AH.none_put (by assumption) | exact AH.none_put (AH.none_put (by assumption)) | (simp only [AH.blk_setTok, AH.tok_put] at *; first | assumption | exact AH.none_put (by assumption)))) | (refine AH.le_putM ?_ (by first | assumption | exact (AH.mp_putM_ne _ _ (by assumption)).trans (by assumption) | (simp only [AH.mp_put, AH.mp_setTok] at *; assumption))))) fun x hx => .of_vg hm ?_
      clear hk
      obtain ⟨s, F5⟩ := x
      obtain ⟨hsn, hk⟩ := hx
      simp only at hsn hk ⊢
      by_cases hsi : s < i
      · have hc3 : (s : Int) < (i : Int) := by omega
        have hrng := fw_rng hv (k := k) (i := r) (j := s) (by rw [hn]; exact hki) r k k s
        rw [hn] at hrng
        have d1 := hk.cell hri (Nat.le_refl i)
        have d2 := hk.cell hki (Nat.le_refl i)
        have d3 := MInv.rowd (n := i) (rowU (colU (fw (Mi c) i k) k i r) k r s) r hki
        have d4 := MInv.rowd (n := i) (rowU (colU (fw (Mi c) i k) k i r) k r s) k hsi
        simp only [hc1, hc2, hc3, hk.mat, d1, d2, hk.row r hri, hk.row k hki, d3, d4, F_dating_solve, g_dating_solve, go_sem, reduceIte, Nat.reduceEqDiff, Nat.reduceAdd, Nat.reduceMul, Nat.reduceSub, reduceCtorEq, Nat.reduceLeDiff, Nat.reduceLT, Int.reduceLT, Int.reduceLE, Int.reduceToNat, Int.reduceAdd, Int.reduceSub, Int.reduceNeg, Int.reduceMul, Int.reduceEq, ← Bool.decide_and, ← Bool.decide_or, ↓tq_n, ↓tq_e, ↓tq_r, ↓bq_n, ↓bq_e, ↓bq_r, ↓rq_n, ↓rq_r, ↓rq_e]
        refine ⟨hrng, CallS.mk (s_dating_limit hk (i := r) (j := s) hri hsi _) fun rr F6 hr => ?_⟩
        subst hr
        have k2 := hk.lim (i := r) (j := s) hri (rowU (colU (fw (Mi c) i k) k i r) k r s r k + rowU (colU (fw (Mi c) i k) k i r) k r s k s)
        simp only [F_dating_solve, g_dating_solve, go_sem, reduceIte, Nat.reduceEqDiff, Nat.reduceAdd, Nat.reduceMul, Nat.reduceSub, reduceCtorEq, Nat.reduceLeDiff, Nat.reduceLT, Int.reduceLT, Int.reduceLE, Int.reduceToNat, Int.reduceAdd, Int.reduceSub, Int.reduceNeg, Int.reduceMul, Int.reduceEq, ← Bool.decide_and, ← Bool.decide_or, ↓tq_n, ↓tq_e, ↓tq_r, ↓bq_n, ↓bq_e, ↓bq_r, ↓rq_n, ↓rq_r, ↓rq_e]
        exact ⟨by rw [inR64]; omega, (s + 1, _), ⟨by simp only; omega, k2⟩, by simp only; omega, (GStep.forget (by repeat' first | exact EnvLe.nil _ | refine EnvLe.cons (AV.le.of_eq rfl) ?_ | refine EnvLe.cons (AV.le.undef _) ?_ | refine EnvLe.cons AV.le.unk ?_) (by repeat' first | exact AH.le.refl _ | assumption | (refine AH.le_put ?_ (by first | assumption | exact (AH.blk_put_ne _ _ (by assumption)).trans (by assumption) | exact AH.none_put (by assumption) | exact AH.none_put (AH.none_put (by assumption)) | (simp only [AH.blk_setTok, AH.tok_put] at *; first | assumption | exact AH.none_put (by assumption)))) | (refine AH.le_setTok ?_ (by first | assumption | exact (AH.blk_put_ne _ _ (by assumption)).trans (by assumption) | exact AH.none_put (by assumption) | exact AH.none_put (AH.none_put (by assumption)) | (simp only [AH.blk_setTok, AH.tok_put] at *; first | assumption | exact AH.none_put (by assumption)))) | (refine AH.le_putM ?_ (by first | assumption | exact (AH.mp_putM_ne _ _ (by assumption)).trans (by assumption) | (simp only [AH.mp_put, AH.mp_setTok] at *; assumption)))))⟩
      · have hsi : s = i := by omega
        subst hsi
        simp only [F_dating_solve, g_dating_solve, go_sem, reduceIte, Nat.reduceEqDiff, Nat.reduceAdd, Nat.reduceMul, Nat.reduceSub, reduceCtorEq, Nat.reduceLeDiff, Nat.reduceLT, Int.reduceLT, Int.reduceLE, Int.reduceToNat, Int.reduceAdd, Int.reduceSub, Int.reduceNeg, Int.reduceMul, Int.reduceEq, ← Bool.decide_and, ← Bool.decide_or, ↓tq_n, ↓tq_e, ↓tq_r, ↓bq_n, ↓bq_e, ↓bq_r, ↓rq_n, ↓rq_r, ↓rq_e]
        exact ⟨by rw [inR64]; omega, (r + 1, _), ⟨by simp only; omega, hk⟩, by simp only; omega, (GStep.forget (by repeat' first | exact EnvLe.nil _ | refine EnvLe.cons (AV.le.of_eq rfl) ?_ | refine EnvLe.cons (AV.le.undef _) ?_ | refine EnvLe.cons AV.le.unk ?_) (by repeat' first | exact AH.le.refl _ | assumption | (refine AH.le_put ?_ (by first | assumption | exact (AH.blk_put_ne _ _ (by assumption)).trans (by assumption) | exact AH.none_put (by assumption) | exact AH.none_put (AH.none_put (by assumption)) | (simp only [AH.blk_setTok, AH.tok_put] at *; first | assumption | exact AH.none_put (by assumption)))) | (refine AH.le_setTok ?_ (by first | assumption | exact (AH.blk_put_ne _ _ (by assumption)).trans (by assumption) | exact AH.none_put (by assumption) | exact AH.none_put (AH.none_put (by assumption)) | (simp only [AH.blk_setTok, AH.tok_put] at *; first | assumption | exact AH.none_put (by assumption)))) | (refine AH.le_putM ?_ (by first | assumption | exact (AH.mp_putM_ne _ _ (by assumption)).trans (by assumption) | (simp only [AH.mp_put, AH.mp_setTok] at *; assumption)))))⟩
    · have hri : r = i := by omega
      subst hri
      simp only [F_dating_solve, g_dating_solve, go_sem, reduceIte, Nat.reduceEqDiff, Nat.reduceAdd, Nat.reduceMul, Nat.reduceSub, reduceCtorEq, Nat.reduceLeDiff, Nat.reduceLT, Int.reduceLT, Int.reduceLE, Int.reduceToNat, Int.reduceAdd, Int.reduceSub, Int.reduceNeg, Int.reduceMul, Int.reduceEq, ← Bool.decide_and, ← Bool.decide_or, ↓tq_n, ↓tq_e, ↓tq_r, ↓bq_n, ↓bq_e, ↓bq_r, ↓rq_n, ↓rq_r, ↓rq_e]
      exact ⟨by rw [inR64]; omega, (k + 1, _), ⟨by simp only; omega, hk⟩, by simp only; omega, (GStep.forget (by repeat' first | exact EnvLe.nil _ | refine EnvLe.cons (AV.le.of_eq rfl) ?_ | refine EnvLe.cons (AV.le.undef _) ?_ | refine EnvLe.cons AV.le.unk ?_) (by repeat' first | exact AH.le.refl _ | assumption | (refine AH.le_put ?_ (by first | assumption | exact (AH.blk_put_ne _ _ (by assumption)).trans (by assumption) | exact AH.none_put (by assumption) | exact AH.none_put (AH.none_put (by assumption)) | (simp only [AH.blk_setTok, AH.tok_put] at *; first | assumption | exact AH.none_put (by assumption)))) | (refine AH.le_setTok ?_ (by first | assumption | exact (AH.blk_put_ne _ _ (by assumption)).trans (by assumption) | exact AH.none_put (by assumption) | exact AH.none_put (AH.none_put (by assumption)) | (simp only [AH.blk_setTok, AH.tok_put] at *; first | assumption | exact AH.none_put (by assumption)))) | (refine AH.le_putM ?_ (by first | assumption | exact (AH.mp_putM_ne _ _ (by assumption)).trans (by assumption) | (simp only [AH.mp_put, AH.mp_setTok] at *; assumption)))))⟩
  have hki : k = i := by omega
  subst hki
  simp only [F_dating_solve, g_dating_solve, go_sem, reduceIte, Nat.reduceEqDiff, Nat.reduceAdd, Nat.reduceMul, Nat.reduceSub, reduceCtorEq, Nat.reduceLeDiff, Nat.reduceLT, Int.reduceLT, Int.reduceLE, Int.reduceToNat, Int.reduceAdd, Int.reduceSub, Int.reduceNeg, Int.reduceMul, Int.reduceEq, ← Bool.decide_and, ← Bool.decide_or, ↓tq_n, ↓tq_e, ↓tq_r, ↓bq_n, ↓bq_e, ↓bq_r, ↓rq_n, ↓rq_r, ↓rq_e]
  have eM : fw (Mi c) k k = Mf c := by unfold Mf; rw [hn]
  rw [eM] at hk
  -- the diagonal
  refine awp_loop (fun x : Nat => [(5, .msl bm 0 k (some k)), (165, I k), (166, I x)]) (fun _ => F3) (fun x => x ≤ k ∧ ∀ a, a < x → 0 ≤ Mf c a a) (fun x => k - x) 0 ⟨Nat.zero_le _, fun a ha => absurd ha (Nat.not_lt_zero _)⟩ (GStep.forget (by repeat' first | exact EnvLe.nil _ | refine EnvLe.cons (AV.le.of_eq rfl) ?_ | refine EnvLe.cons (AV.le.undef _) ?_ | refine EnvLe.cons AV.le.unk ?_) (by repeat' first | exact AH.le.refl _ | assumption | (refine AH.le_put ?_ (by first | assumption | exact (AH.blk_put_ne _ _ (by assumption)).trans (by assumption) | exact AH.none_put (by assumption) | exact AH.none_put (AH.none_put (by assumption)) | (simp only [AH.blk_setTok, AH.tok_put] at *; first | assumption | exact AH.none_put (by assumption)))) | (refine AH.le_setTok ?_ (by first | assumption | exact (AH.blk_put_ne _ _ (by assumption)).trans (by assumption) | exact AH.none_put (by assumption) | exact AH.none_put (AH.none_put (by assumption)) | (simp only [AH.blk_setTok, AH.tok_put] at *; first | assumption | exact AH.none_put (by assumption)))) | (refine AH.le_putM ?_ (by first | assumption | exact (AH.mp_putM_ne _ _ (by assumption)).trans (by assumption) | (simp only [AH.mp_put, AH.mp_setTok] at *; assumption))))) fun x hx => .of_vg hm ?_
  obtain ⟨hxn, hxa⟩ := hx
  by_cases hxk : x < k
  · have hc1 : (x : Int) < (k : Int) := by omega
    have d1 := hk.cell hxk (Nat.le_refl k)
    have d2 := MInv.rowd (n := k) (Mf c) x hxk
    simp only [hc1, hk.mat, d1, hk.row x hxk, d2, F_dating_solve, g_dating_solve, go_sem, reduceIte, Nat.reduceEqDiff, Nat.reduceAdd, Nat.reduceMul, Nat.reduceSub, reduceCtorEq, Nat.reduceLeDiff, Nat.reduceLT, Int.reduceLT, Int.reduceLE, Int.reduceToNat, Int.reduceAdd, Int.reduceSub, Int.reduceNeg, Int.reduceMul, Int.reduceEq, ← Bool.decide_and, ← Bool.decide_or, ↓tq_n, ↓tq_e, ↓tq_r, ↓bq_n, ↓bq_e, ↓bq_r, ↓rq_n, ↓rq_r, ↓rq_e]
    refine ⟨fun h1 => ?_, fun h1 => ⟨by rw [inR64]; omega, x + 1, ⟨by omega, all_succ hxa (by omega)⟩, by omega, (GStep.forget (by repeat' first | exact EnvLe.nil _ | refine EnvLe.cons (AV.le.of_eq rfl) ?_ | refine EnvLe.cons (AV.le.undef _) ?_ | refine EnvLe.cons AV.le.unk ?_) (by repeat' first | exact AH.le.refl _ | assumption | (refine AH.le_put ?_ (by first | assumption | exact (AH.blk_put_ne _ _ (by assumption)).trans (by assumption) | exact AH.none_put (by assumption) | exact AH.none_put (AH.none_put (by assumption)) | (simp only [AH.blk_setTok, AH.tok_put] at *; first | assumption | exact AH.none_put (by assumption)))) | (refine AH.le_setTok ?_ (by first | assumption | exact (AH.blk_put_ne _ _ (by assumption)).trans (by assumption) | exact AH.none_put (by assumption) | exact AH.none_put (AH.none_put (by assumption)) | (simp only [AH.blk_setTok, AH.tok_put] at *; first | assumption | exact AH.none_put (by assumption)))) | (refine AH.le_putM ?_ (by first | assumption | exact (AH.mp_putM_ne _ _ (by assumption)).trans (by assumption) | (simp only [AH.mp_put, AH.mp_setTok] at *; assumption)))))⟩⟩
    have hno : ¬ Ok c := fun ho => by have := ho x (by rw [hn]; exact hxk); omega
    refine ret_hb (AH.le.trans Hle hk.le) ?_
    rw [if_neg hno]
    simp [hno]
  · have hxk : x = k := by omega
    subst hxk
    have hok : Ok c := fun a ha => hxa a (by rw [hn] at ha; exact ha)
    simp only [F_dating_solve, g_dating_solve, go_sem, reduceIte, Nat.reduceEqDiff, Nat.reduceAdd, Nat.reduceMul, Nat.reduceSub, reduceCtorEq, Nat.reduceLeDiff, Nat.reduceLT, Int.reduceLT, Int.reduceLE, Int.reduceToNat, Int.reduceAdd, Int.reduceSub, Int.reduceNeg, Int.reduceMul, Int.reduceEq, ← Bool.decide_and, ← Bool.decide_or, ↓tq_n, ↓tq_e, ↓tq_r, ↓bq_n, ↓bq_e, ↓bq_r, ↓rq_n, ↓rq_r, ↓rq_e]
    refine ⟨_, h', (RGh.tup2 hk.fixAll (AV.le.refl _)).trans (RGh.forget (AV.le.refl _) Hle), ?_, rfl⟩
    rw [if_pos hok]
    simp [hok]
end Go.Proofs.Ytcicklmlbdfneaa
