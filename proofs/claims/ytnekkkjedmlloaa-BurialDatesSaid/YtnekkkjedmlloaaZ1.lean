/- Calls of functions of this seat's program: the closed bounds. No condition. -/
import Derived.Test.YtnekkkjedmlloaaD8
import Derived.Test.YtnekkkjedmlloaaA23
import Derived.Test.YtnekkkjedmlloaaC1
import Derived.Test.YtnekkkjedmlloaaC2
import Derived.Test.YtnekkkjedmlloaaC3
import Derived.Test.YtnekkkjedmlloaaH11
namespace Go.Proofs.Ytnekkkjedmlloaa
open Go Go.Abs
set_option linter.unusedSimpArgs false
set_option linter.unusedVariables false
set_option maxRecDepth 20000

theorem M0_lb (a b : Nat) : -20000 ≤ M0 a b := by unfold M0; split <;> omega
theorem M0_ub (a b : Nat) : M0 a b ≤ 1099511627776 := by unfold M0; split <;> omega
theorem vc_nV {c : Cr} (hv : VC c) : nV c ≤ 15 := by have := hv.1; unfold nV; omega
/-- The numbers within the closing. -/
theorem fw_rng {c : Cr} (hv : VC c) {k i j : Nat} (hk : k < nV c) (a b a' b' : Nat) :
    InR .i64 (rowU (colU (fw (Mi c) (nV c) k) k (nV c) i) k i j a b + rowU (colU (fw (Mi c) (nV c) k) k (nV c) i) k i j a' b') := by
  have hn := vc_nV hv
  have hlb : ∀ a b, -20000 ≤ Mi c a b := lims_lb M0_lb (allC_lb hv)
  have h6 : (0 : Int) ≤ 6 ^ k * 20000 := Int.mul_nonneg (Int.le_of_lt (Int.pow_pos (by decide))) (by decide)
  have hL := ((LbI.colU (n := nV c) (k := k) h6 (fw_lb (n := nV c) (L := 20000) (by decide) hlb k) i).rowU h6 (fw_lb (n := nV c) (L := 20000) (by decide) hlb k) j).all
  have hp : (6 : Int) ^ k ≤ 78364164096 := by
    have h1 : (6 : Nat) ^ k ≤ 6 ^ 14 := Nat.pow_le_pow_right (by decide) (by omega)
    have h2 : ((6 ^ k : Nat) : Int) = (6 : Int) ^ k := by simp
    have h3 : (6 : Nat) ^ 14 = 78364164096 := by decide
    omega
  have hub : ∀ a b, rowU (colU (fw (Mi c) (nV c) k) k (nV c) i) k i j a b ≤ 1099511627776 := fun a b => by
    have h1 := rowU_le (colU (fw (Mi c) (nV c) k) k (nV c) i) k i a b j
    have h2 := colU_le (fw (Mi c) (nV c) k) k (nV c) a b i
    have h3 := fw_le (Mi c) (nV c) a b 0 k
    rw [Nat.zero_add] at h3
    have h4 : fw (Mi c) (nV c) 0 a b = Mi c a b := rfl
    have h5 : Mi c a b ≤ M0 a b := lims_le _ _ _ _
    have h6 := M0_ub a b
    omega
  have u1 := hub a b
  have u2 := hub a' b'
  have l1 := hL a b
  have l2 := hL a' b'
  rw [inR64]
  omega

set_option maxHeartbeats 1000000 in
theorem r_dating_solve (c : Cr) (hv : VC c) (h : AH) : RCall Try.prog n_dating_solve [.st c.cs] h (.tup [if Ok c then matV (nV c) (Mf c) else .sl true 0 [] .full, .bool (decide (Ok c))]) := by
  refine RCall.of hm cF_dating_solve (by simp [g_dating_solve]) fun hw h' hl => ?_
  obtain ⟨hxT, hxH, hxG⟩ := cr_lens (n := 1) (hw _ (.head _))
  have hn15 := vc_nV hv
  have hnI : (1 : Int) + (c.ty.length : Int) + (c.ho.length : Int) = (nV c : Nat) := by unfold nV; omega
  have i1 : InR .i64 ((1 : Int) + (c.ty.length : Int)) := by have := hv.1; rw [inR64]; omega
  have i2 : InR .i64 ((nV c : Nat) : Int) := by rw [inR64]; omega
  simp only [Cr.cs, F_dating_solve, g_dating_solve, go_sem, reduceIte, Nat.reduceEqDiff, Nat.reduceAdd, Nat.reduceMul, Nat.reduceSub, reduceCtorEq, Nat.reduceLeDiff, Nat.reduceLT, Int.reduceLT, Int.reduceLE, Int.reduceToNat, Int.reduceAdd, Int.reduceSub, Int.reduceNeg, Int.reduceMul, Int.reduceEq, ← Bool.decide_and, ← Bool.decide_or, ↓tq_n, ↓tq_e, ↓tq_r, ↓bq_n, ↓bq_e, ↓bq_r, ↓rq_n, ↓rq_r, ↓rq_e]
  refine AllocG.mk fun b1 hb1 => ?_
  simp only [hnI, i1, i2, F_dating_solve, g_dating_solve, go_sem, reduceIte, Nat.reduceEqDiff, Nat.reduceAdd, Nat.reduceMul, Nat.reduceSub, reduceCtorEq, Nat.reduceLeDiff, Nat.reduceLT, Int.reduceLT, Int.reduceLE, Int.reduceToNat, Int.reduceAdd, Int.reduceSub, Int.reduceNeg, Int.reduceMul, Int.reduceEq, ← Bool.decide_and, ← Bool.decide_or, ↓tq_n, ↓tq_e, ↓tq_r, ↓bq_n, ↓bq_e, ↓bq_r, ↓rq_n, ↓rq_r, ↓rq_e]
  generalize hH : h'.put b1 [AV.sl c.nlT c.ty.length (prs c.ty) c.tlT, AV.sl c.nlH c.ho.length (hds c.ho) c.tlH, AV.sl c.nlG c.ga.length (trs c.ga) c.tlG] = H
  have Hb : H.blk b1 = some [AV.sl c.nlT c.ty.length (prs c.ty) c.tlT, AV.sl c.nlH c.ho.length (hds c.ho) c.tlH, AV.sl c.nlG c.ga.length (trs c.ga) c.tlG] := by rw [← hH, AH.blk_put]
  have Hle : h'.le H := by rw [← hH]; exact (by repeat' first | exact AH.le.refl _ | assumption | (refine AH.le_put ?_ (by first | assumption | exact (AH.blk_put_ne _ _ (by assumption)).trans (by assumption) | exact AH.none_put (by assumption) | exact AH.none_put (AH.none_put (by assumption)) | (simp only [AH.blk_setTok, AH.tok_put] at *; first | assumption | exact AH.none_put (by assumption)))) | (refine AH.le_setTok ?_ (by first | assumption | exact (AH.blk_put_ne _ _ (by assumption)).trans (by assumption) | exact AH.none_put (by assumption) | exact AH.none_put (AH.none_put (by assumption)) | (simp only [AH.blk_setTok, AH.tok_put] at *; first | assumption | exact AH.none_put (by assumption)))) | (refine AH.le_putM ?_ (by first | assumption | exact (AH.mp_putM_ne _ _ (by assumption)).trans (by assumption) | (simp only [AH.mp_put, AH.mp_setTok] at *; assumption))))
  clear hH
  generalize hn : nV c = n at *
  refine MakeG.mk (by omega) (Int.le_refl _) (by omega) (by omega) fun bm hbm => ?_
  rw [Int.toNat_natCast, flat_rep]
  simp only [F_dating_solve, g_dating_solve, go_sem, reduceIte, Nat.reduceEqDiff, Nat.reduceAdd, Nat.reduceMul, Nat.reduceSub, reduceCtorEq, Nat.reduceLeDiff, Nat.reduceLT, Int.reduceLT, Int.reduceLE, Int.reduceToNat, Int.reduceAdd, Int.reduceSub, Int.reduceNeg, Int.reduceMul, Int.reduceEq, ← Bool.decide_and, ← Bool.decide_or, ↓tq_n, ↓tq_e, ↓tq_r, ↓bq_n, ↓bq_e, ↓bq_r, ↓rq_n, ↓rq_r, ↓rq_e]
  -- the rows
  refine awp_loop (α := Nat × (Nat → Nat) × AH) (fun x => [(1, .ptr b1 0), (4, I n), (5, .msl bm 0 n (some n)), (31, I n), (32, I x.1)]) (fun x => x.2.2) (fun x => x.1 ≤ n ∧ MInv H bm x.2.1 n x.1 M0 x.2.2) (fun x => n - x.1)
    (0, fun _ => 0, H.put bm (List.replicate n (.sl true 0 [] .full))) ⟨Nat.zero_le _, ?_⟩ (GStep.forget (by repeat' first | exact EnvLe.nil _ | refine EnvLe.cons (AV.le.of_eq rfl) ?_ | refine EnvLe.cons (AV.le.undef _) ?_ | refine EnvLe.cons AV.le.unk ?_) (by repeat' first | exact AH.le.refl _ | assumption | (refine AH.le_put ?_ (by first | assumption | exact (AH.blk_put_ne _ _ (by assumption)).trans (by assumption) | exact AH.none_put (by assumption) | exact AH.none_put (AH.none_put (by assumption)) | (simp only [AH.blk_setTok, AH.tok_put] at *; first | assumption | exact AH.none_put (by assumption)))) | (refine AH.le_setTok ?_ (by first | assumption | exact (AH.blk_put_ne _ _ (by assumption)).trans (by assumption) | exact AH.none_put (by assumption) | exact AH.none_put (AH.none_put (by assumption)) | (simp only [AH.blk_setTok, AH.tok_put] at *; first | assumption | exact AH.none_put (by assumption)))) | (refine AH.le_putM ?_ (by first | assumption | exact (AH.mp_putM_ne _ _ (by assumption)).trans (by assumption) | (simp only [AH.mp_put, AH.mp_setTok] at *; assumption))))) fun x hx => .of_vg hm ?_
  · show MInv H bm (fun _ => 0) n 0 M0 (H.put bm (List.replicate n (.sl true 0 [] .full)))
    refine ⟨?_, fun i hi => absurd hi (Nat.not_lt_zero _), fun i j hi => absurd hi (Nat.not_lt_zero _), fun i hi => absurd hi (Nat.not_lt_zero _), hbm, fun i hi => absurd hi (Nat.not_lt_zero _), AH.le_new _ _ hbm⟩
    rw [AH.blk_put]
    congr 1
    apply List.ext_getElem
    · simp
    · intro q h1 h2; simp [mcell]
  obtain ⟨i, B, G⟩ := x
  obtain ⟨hi, hk⟩ := hx
  simp only at hi hk ⊢
  by_cases hin : i < n
  · have hc1 : (i : Int) < (n : Int) := by omega
    simp only [hc1, F_dating_solve, g_dating_solve, go_sem, reduceIte, Nat.reduceEqDiff, Nat.reduceAdd, Nat.reduceMul, Nat.reduceSub, reduceCtorEq, Nat.reduceLeDiff, Nat.reduceLT, Int.reduceLT, Int.reduceLE, Int.reduceToNat, Int.reduceAdd, Int.reduceSub, Int.reduceNeg, Int.reduceMul, Int.reduceEq, ← Bool.decide_and, ← Bool.decide_or, ↓tq_n, ↓tq_e, ↓tq_r, ↓bq_n, ↓bq_e, ↓bq_r, ↓rq_n, ↓rq_r, ↓rq_e]
    refine CallS.mk (s_slices_Repeat 1099511627776 false .full n (by omega) G) fun r G2 hr => ?_
    obtain ⟨b, hb, rfl, rfl⟩ := hr
    have nbm : bm ≠ b := fun hh => by subst hh; rw [hk.mat] at hb; cases hb
    have hcl : ((List.range n).map (mcell B n i)).length = n := by simp
    have hi1 : i + 1 ≤ n := by omega
    have hcd : (((List.range n).map (mcell B n i)).set i (.msl b 0 n (some n))) = (List.range n).map (mcell (fun q => if q = i then b else B q) n (i + 1)) := by
      apply List.ext_getElem
      · simp
      · intro q h1 h2
        simp only [List.getElem_set, List.getElem_map, List.getElem_range, mcell]
        by_cases hq : i = q
        · subst hq; simp
        · have hq' : ¬ q = i := fun hh => hq hh.symm
          rw [if_neg hq]
          by_cases hq2 : q < i
          · rw [if_pos hq2, if_pos (by omega), if_neg hq']
          · rw [if_neg hq2, if_neg (by omega)]
    have hcd2 : ((List.range n).map (mcell (fun q => if q = i then b else B q) n (i + 1))).drop i = .msl b 0 n (some n) :: ((List.range n).map (mcell (fun q => if q = i then b else B q) n (i + 1))).drop (i + 1) :=
      drop_of_get (by simp [hin, mcell])
    have hrl : (List.replicate n (I 1099511627776)).set i (I 0) = i64s (rowL n M0 i) := by
      apply List.ext_getElem
      · simp [i64s, rowL]
      · intro q h1 h2
        simp only [List.getElem_set, List.getElem_replicate, i64s, rowL, List.getElem_map, List.getElem_range, M0]
        split <;> rfl
    simp only [AH.blk_put_ne _ _ nbm, hk.mat, hcl, hi1, hcd, hcd2, AH.blk_put_ne _ _ nbm.symm, hc1, List.length_replicate, hrl, F_dating_solve, g_dating_solve, go_sem, reduceIte, Nat.reduceEqDiff, Nat.reduceAdd, Nat.reduceMul, Nat.reduceSub, reduceCtorEq, Nat.reduceLeDiff, Nat.reduceLT, Int.reduceLT, Int.reduceLE, Int.reduceToNat, Int.reduceAdd, Int.reduceSub, Int.reduceNeg, Int.reduceMul, Int.reduceEq, ← Bool.decide_and, ← Bool.decide_or, ↓tq_n, ↓tq_e, ↓tq_r, ↓bq_n, ↓bq_e, ↓bq_r, ↓rq_n, ↓rq_r, ↓rq_e]
    refine ⟨by rw [inR64]; omega, (i + 1, fun q => if q = i then b else B q, ((G.put b (List.replicate n (I 1099511627776))).put bm ((List.range n).map (mcell (fun q => if q = i then b else B q) n (i + 1)))).put b (i64s (rowL n M0 i))), ⟨by simp only; omega, ?_⟩, by simp only; omega, (GStep.forget (by repeat' first | exact EnvLe.nil _ | refine EnvLe.cons (AV.le.of_eq rfl) ?_ | refine EnvLe.cons (AV.le.undef _) ?_ | refine EnvLe.cons AV.le.unk ?_) (by repeat' first | exact AH.le.refl _ | assumption | (refine AH.le_put ?_ (by first | assumption | exact (AH.blk_put_ne _ _ (by assumption)).trans (by assumption) | exact AH.none_put (by assumption) | exact AH.none_put (AH.none_put (by assumption)) | (simp only [AH.blk_setTok, AH.tok_put] at *; first | assumption | exact AH.none_put (by assumption)))) | (refine AH.le_setTok ?_ (by first | assumption | exact (AH.blk_put_ne _ _ (by assumption)).trans (by assumption) | exact AH.none_put (by assumption) | exact AH.none_put (AH.none_put (by assumption)) | (simp only [AH.blk_setTok, AH.tok_put] at *; first | assumption | exact AH.none_put (by assumption)))) | (refine AH.le_putM ?_ (by first | assumption | exact (AH.mp_putM_ne _ _ (by assumption)).trans (by assumption) | (simp only [AH.mp_put, AH.mp_setTok] at *; assumption)))))⟩
    simp only
    refine ⟨?_, fun a ha => ?_, fun a a' ha ha' haa => ?_, fun a ha => ?_, hbm, fun a ha => ?_, ?_⟩
    · rw [AH.blk_put_ne _ _ nbm, AH.blk_put]
    · by_cases hai : a = i
      · subst hai; simp only [if_true]; rw [AH.blk_put]
      · simp only [hai, if_false]
        have hlt : a < i := by omega
        have ne1 : B a ≠ b := fun hh => by rw [← hh, hk.row a hlt] at hb; cases hb
        rw [AH.blk_put_ne _ _ ne1, AH.blk_put_ne _ _ (hk.ne a hlt), AH.blk_put_ne _ _ ne1]
        exact hk.row a hlt
    · have nb : ∀ a, a < i → B a ≠ b := fun a hlt hh => by rw [← hh, hk.row a hlt] at hb; cases hb
      by_cases h1 : a = i
      · by_cases h2 : a' = i
        · omega
        · simp only [h1, h2, if_true, if_false] at haa
          exact absurd haa.symm (nb a' (by omega))
      · by_cases h2 : a' = i
        · simp only [h1, h2, if_true, if_false] at haa
          exact absurd haa (nb a (by omega))
        · simp only [h1, h2, if_false] at haa
          exact hk.inj a a' (by omega) (by omega) haa
    · by_cases hai : a = i
      · subst hai; simp only [if_true]; exact fun hh => nbm hh.symm
      · simp only [hai, if_false]; exact hk.ne a (by omega)
    · by_cases hai : a = i
      · subst hai; simp only [if_true]; exact AH.none_of_le hk.le hb
      · simp only [hai, if_false]; exact hk.freshR a (by omega)
    · exact AH.le_put (AH.le_put (AH.le_put hk.le (AH.none_of_le hk.le hb)) hbm) (AH.none_of_le hk.le hb)
  have hin : i = n := by omega
  subst hin
  have hG1 := hk.le.blk b1 _ Hb
  have e0 : M0 = lims M0 (tyC c 0) := rfl
  rw [e0] at hk
  have hc0 : ¬ (i : Int) < (i : Int) := by omega
  simp only [hG1, F_dating_solve, g_dating_solve, go_sem, reduceIte, Nat.reduceEqDiff, Nat.reduceAdd, Nat.reduceMul, Nat.reduceSub, reduceCtorEq, Nat.reduceLeDiff, Nat.reduceLT, Int.reduceLT, Int.reduceLE, Int.reduceToNat, Int.reduceAdd, Int.reduceSub, Int.reduceNeg, Int.reduceMul, Int.reduceEq, ← Bool.decide_and, ← Bool.decide_or, ↓tq_n, ↓tq_e, ↓tq_r, ↓bq_n, ↓bq_e, ↓bq_r, ↓rq_n, ↓rq_r, ↓rq_e]
  clear hG1 hi
  -- the types
  refine awp_loop (α := Nat × AH) (fun x => [(1, .ptr b1 0), (5, .msl bm 0 i (some i)), (49, .sl c.nlT c.ty.length (prs c.ty) c.tlT), (50, I c.ty.length), (51, I x.1)]) (fun x => x.2) (fun x => x.1 ≤ c.ty.length ∧ MInv H bm B i i (lims M0 (tyC c x.1)) x.2) (fun x => c.ty.length - x.1)
    (0, G) ⟨Nat.zero_le _, hk⟩ (GStep.forget (by repeat' first | exact EnvLe.nil _ | refine EnvLe.cons (AV.le.of_eq rfl) ?_ | refine EnvLe.cons (AV.le.undef _) ?_ | refine EnvLe.cons AV.le.unk ?_) (by repeat' first | exact AH.le.refl _ | assumption | (refine AH.le_put ?_ (by first | assumption | exact (AH.blk_put_ne _ _ (by assumption)).trans (by assumption) | exact AH.none_put (by assumption) | exact AH.none_put (AH.none_put (by assumption)) | (simp only [AH.blk_setTok, AH.tok_put] at *; first | assumption | exact AH.none_put (by assumption)))) | (refine AH.le_setTok ?_ (by first | assumption | exact (AH.blk_put_ne _ _ (by assumption)).trans (by assumption) | exact AH.none_put (by assumption) | exact AH.none_put (AH.none_put (by assumption)) | (simp only [AH.blk_setTok, AH.tok_put] at *; first | assumption | exact AH.none_put (by assumption)))) | (refine AH.le_putM ?_ (by first | assumption | exact (AH.mp_putM_ne _ _ (by assumption)).trans (by assumption) | (simp only [AH.mp_put, AH.mp_setTok] at *; assumption))))) fun x hx => .of_vg hm ?_
  clear hk
  obtain ⟨q, F⟩ := x
  obtain ⟨hq, hk⟩ := hx
  simp only at hq hk ⊢
  by_cases hqt : q < c.ty.length
  · have hc1 : (q : Int) < (c.ty.length : Int) := by omega
    have hqn : 1 + q < i := by rw [← hn]; unfold nV; omega
    have hq1 : (1 : Int) + (q : Int) = ((1 + q : Nat) : Int) := by omega
    have iq : InR .i64 ((1 + q : Nat) : Int) := by rw [inR64]; omega
    have hy := hv.2.1 q hqt
    unfold Yv at hy
    simp only [hc1, prs_drop hqt, F_dating_solve, g_dating_solve, go_sem, reduceIte, Nat.reduceEqDiff, Nat.reduceAdd, Nat.reduceMul, Nat.reduceSub, reduceCtorEq, Nat.reduceLeDiff, Nat.reduceLT, Int.reduceLT, Int.reduceLE, Int.reduceToNat, Int.reduceAdd, Int.reduceSub, Int.reduceNeg, Int.reduceMul, Int.reduceEq, ← Bool.decide_and, ← Bool.decide_or, ↓tq_n, ↓tq_e, ↓tq_r, ↓bq_n, ↓bq_e, ↓bq_r, ↓rq_n, ↓rq_r, ↓rq_e]
    refine AllocG.mk fun b8 hb8 => ?_
    have k1 := hk.other hb8 [I (c.ty.getD q (0, 0)).1, I (c.ty.getD q (0, 0)).2]
    have n0 : b8 ≠ B 0 := fun hh => by rw [hh, hk.row 0 (by omega)] at hb8; cases hb8
    simp only [hq1, iq, F_dating_solve, g_dating_solve, go_sem, reduceIte, Nat.reduceEqDiff, Nat.reduceAdd, Nat.reduceMul, Nat.reduceSub, reduceCtorEq, Nat.reduceLeDiff, Nat.reduceLT, Int.reduceLT, Int.reduceLE, Int.reduceToNat, Int.reduceAdd, Int.reduceSub, Int.reduceNeg, Int.reduceMul, Int.reduceEq, ← Bool.decide_and, ← Bool.decide_or, ↓tq_n, ↓tq_e, ↓tq_r, ↓bq_n, ↓bq_e, ↓bq_r, ↓rq_n, ↓rq_r, ↓rq_e]
    refine CallS.mk (s_dating_limit k1 (i := 0) (j := 1 + q) (by omega) hqn (c.ty.getD q (0, 0)).2) fun r F2 hr => ?_
    subst hr
    have k2 := k1.lim (i := 0) (j := 1 + q) (by omega) (c.ty.getD q (0, 0)).2
    have ineg : InR .i64 (-(c.ty.getD q (0, 0)).1) := by rw [inR64]; omega
    simp only [hq1, iq, AH.blk_put_ne _ _ n0, ineg, F_dating_solve, g_dating_solve, go_sem, reduceIte, Nat.reduceEqDiff, Nat.reduceAdd, Nat.reduceMul, Nat.reduceSub, reduceCtorEq, Nat.reduceLeDiff, Nat.reduceLT, Int.reduceLT, Int.reduceLE, Int.reduceToNat, Int.reduceAdd, Int.reduceSub, Int.reduceNeg, Int.reduceMul, Int.reduceEq, ← Bool.decide_and, ← Bool.decide_or, ↓tq_n, ↓tq_e, ↓tq_r, ↓bq_n, ↓bq_e, ↓bq_r, ↓rq_n, ↓rq_r, ↓rq_e]
    refine CallS.mk (s_dating_limit k2 (i := 1 + q) (j := 0) hqn (by omega) (-(c.ty.getD q (0, 0)).1)) fun r F3 hr => ?_
    subst hr
    have k3 := k2.lim (i := 1 + q) (j := 0) hqn (-(c.ty.getD q (0, 0)).1)
    simp only [F_dating_solve, g_dating_solve, go_sem, reduceIte, Nat.reduceEqDiff, Nat.reduceAdd, Nat.reduceMul, Nat.reduceSub, reduceCtorEq, Nat.reduceLeDiff, Nat.reduceLT, Int.reduceLT, Int.reduceLE, Int.reduceToNat, Int.reduceAdd, Int.reduceSub, Int.reduceNeg, Int.reduceMul, Int.reduceEq, ← Bool.decide_and, ← Bool.decide_or, ↓tq_n, ↓tq_e, ↓tq_r, ↓bq_n, ↓bq_e, ↓bq_r, ↓rq_n, ↓rq_r, ↓rq_e]
    refine ⟨by rw [inR64]; omega, (q + 1, _), ⟨by simp only; omega, ?_⟩, by simp only; omega, (GStep.forget (by repeat' first | exact EnvLe.nil _ | refine EnvLe.cons (AV.le.of_eq rfl) ?_ | refine EnvLe.cons (AV.le.undef _) ?_ | refine EnvLe.cons AV.le.unk ?_) (by repeat' first | exact AH.le.refl _ | assumption | (refine AH.le_put ?_ (by first | assumption | exact (AH.blk_put_ne _ _ (by assumption)).trans (by assumption) | exact AH.none_put (by assumption) | exact AH.none_put (AH.none_put (by assumption)) | (simp only [AH.blk_setTok, AH.tok_put] at *; first | assumption | exact AH.none_put (by assumption)))) | (refine AH.le_setTok ?_ (by first | assumption | exact (AH.blk_put_ne _ _ (by assumption)).trans (by assumption) | exact AH.none_put (by assumption) | exact AH.none_put (AH.none_put (by assumption)) | (simp only [AH.blk_setTok, AH.tok_put] at *; first | assumption | exact AH.none_put (by assumption)))) | (refine AH.le_putM ?_ (by first | assumption | exact (AH.mp_putM_ne _ _ (by assumption)).trans (by assumption) | (simp only [AH.mp_put, AH.mp_setTok] at *; assumption)))))⟩
    have : lims M0 (tyC c (q + 1)) = lim (lim (lims M0 (tyC c q)) 0 (1 + q) (c.ty.getD q (0, 0)).2) (1 + q) 0 (-(c.ty.getD q (0, 0)).1) := by
      simp only [tyC, lims_append]; rfl
    rw [this]; exact k3
  have hqt : q = c.ty.length := by omega
  subst hqt
  clear hq
  have hG1 := hk.le.blk b1 _ Hb
  have e0 : lims M0 (tyC c c.ty.length) = lims M0 (tyC c c.ty.length ++ hoC c 0) := by simp [hoC]
  rw [e0] at hk
  simp only [hG1, F_dating_solve, g_dating_solve, go_sem, reduceIte, Nat.reduceEqDiff, Nat.reduceAdd, Nat.reduceMul, Nat.reduceSub, reduceCtorEq, Nat.reduceLeDiff, Nat.reduceLT, Int.reduceLT, Int.reduceLE, Int.reduceToNat, Int.reduceAdd, Int.reduceSub, Int.reduceNeg, Int.reduceMul, Int.reduceEq, ← Bool.decide_and, ← Bool.decide_or, ↓tq_n, ↓tq_e, ↓tq_r, ↓bq_n, ↓bq_e, ↓bq_r, ↓rq_n, ↓rq_r, ↓rq_e]
  clear hG1
  -- the hoards
  refine awp_loop (α := Nat × AH) (fun x => [(1, .ptr b1 0), (5, .msl bm 0 i (some i)), (71, .sl c.nlH c.ho.length (hds c.ho) c.tlH), (72, I c.ho.length), (73, I x.1)]) (fun x => x.2) (fun x => x.1 ≤ c.ho.length ∧ MInv H bm B i i (lims M0 (tyC c c.ty.length ++ hoC c x.1)) x.2) (fun x => c.ho.length - x.1)
    (0, F) ⟨Nat.zero_le _, hk⟩ (GStep.forget (by repeat' first | exact EnvLe.nil _ | refine EnvLe.cons (AV.le.of_eq rfl) ?_ | refine EnvLe.cons (AV.le.undef _) ?_ | refine EnvLe.cons AV.le.unk ?_) (by repeat' first | exact AH.le.refl _ | assumption | (refine AH.le_put ?_ (by first | assumption | exact (AH.blk_put_ne _ _ (by assumption)).trans (by assumption) | exact AH.none_put (by assumption) | exact AH.none_put (AH.none_put (by assumption)) | (simp only [AH.blk_setTok, AH.tok_put] at *; first | assumption | exact AH.none_put (by assumption)))) | (refine AH.le_setTok ?_ (by first | assumption | exact (AH.blk_put_ne _ _ (by assumption)).trans (by assumption) | exact AH.none_put (by assumption) | exact AH.none_put (AH.none_put (by assumption)) | (simp only [AH.blk_setTok, AH.tok_put] at *; first | assumption | exact AH.none_put (by assumption)))) | (refine AH.le_putM ?_ (by first | assumption | exact (AH.mp_putM_ne _ _ (by assumption)).trans (by assumption) | (simp only [AH.mp_put, AH.mp_setTok] at *; assumption))))) fun x hx => .of_vg hm ?_
  clear hk
  obtain ⟨q, F1⟩ := x
  obtain ⟨hq, hk⟩ := hx
  simp only at hq hk ⊢
  by_cases hqt : q < c.ho.length
  · have hc1 : (q : Int) < (c.ho.length : Int) := by omega
    obtain ⟨p, hp⟩ : ∃ p, 1 + c.ty.length + q = p := ⟨_, rfl⟩
    have hpn : p < i := by rw [← hn]; unfold nV; omega
    have hpI : (1 : Int) + (c.ty.length : Int) + (q : Int) = (p : Int) := by omega
    have ip : InR .i64 (p : Int) := by rw [inR64]; omega
    have hy := (hv.2.2.1 q hqt).1.2.2.2
    have hcoin := fun j hj => vc_coin hv (j := j) hqt hj
    have hcl := (hv.2.2.1 q hqt).1.2.1
    unfold Yv at hy
    simp only [hc1, hds_drop hqt, F_dating_solve, g_dating_solve, go_sem, reduceIte, Nat.reduceEqDiff, Nat.reduceAdd, Nat.reduceMul, Nat.reduceSub, reduceCtorEq, Nat.reduceLeDiff, Nat.reduceLT, Int.reduceLT, Int.reduceLE, Int.reduceToNat, Int.reduceAdd, Int.reduceSub, Int.reduceNeg, Int.reduceMul, Int.reduceEq, ← Bool.decide_and, ← Bool.decide_or, ↓tq_n, ↓tq_e, ↓tq_r, ↓bq_n, ↓bq_e, ↓bq_r, ↓rq_n, ↓rq_r, ↓rq_e]
    refine AllocG.mk fun b8 hb8 => ?_
    have ehoc : hoC c (q + 1) = hoC c q ++ ([(0, p, (c.ho.getD q dH).cl.2), (p, 0, -(c.ho.getD q dH).cl.1)] ++ coC (c.ho.getD q dH) p (c.ho.getD q dH).coins.length) := by rw [← hp]; rfl
    generalize c.ho.getD q dH = x at *
    have k1 := hk.other hb8 [I x.id, .sl x.nl x.coins.length (prs x.coins) x.tl, I x.cl.1, I x.cl.2]
    have n0 : b8 ≠ B 0 := fun hh => by rw [hh, hk.row 0 (by omega)] at hb8; cases hb8
    have n1 : b8 ≠ B p := fun hh => by rw [hh, hk.row p hpn] at hb8; cases hb8
    have h81 : b8 ≠ b1 := fun hh => by rw [hh, hk.le.blk b1 _ Hb] at hb8; cases hb8
    have hG1 := k1.le.blk b1 _ Hb
    rw [AH.blk_put_ne _ _ h81.symm] at hG1
    simp only [AH.blk_put_ne _ _ h81.symm, hG1, i1, hpI, ip, F_dating_solve, g_dating_solve, go_sem, reduceIte, Nat.reduceEqDiff, Nat.reduceAdd, Nat.reduceMul, Nat.reduceSub, reduceCtorEq, Nat.reduceLeDiff, Nat.reduceLT, Int.reduceLT, Int.reduceLE, Int.reduceToNat, Int.reduceAdd, Int.reduceSub, Int.reduceNeg, Int.reduceMul, Int.reduceEq, ← Bool.decide_and, ← Bool.decide_or, ↓tq_n, ↓tq_e, ↓tq_r, ↓bq_n, ↓bq_e, ↓bq_r, ↓rq_n, ↓rq_r, ↓rq_e]
    refine CallS.mk (s_dating_limit k1 (i := 0) (j := p) (by omega) hpn x.cl.2) fun r F2 hr => ?_
    subst hr
    have k2 := k1.lim (i := 0) (j := p) (by omega) x.cl.2
    have ineg : InR .i64 (-x.cl.1) := by rw [inR64]; omega
    simp only [AH.blk_put_ne _ _ n0, ineg, F_dating_solve, g_dating_solve, go_sem, reduceIte, Nat.reduceEqDiff, Nat.reduceAdd, Nat.reduceMul, Nat.reduceSub, reduceCtorEq, Nat.reduceLeDiff, Nat.reduceLT, Int.reduceLT, Int.reduceLE, Int.reduceToNat, Int.reduceAdd, Int.reduceSub, Int.reduceNeg, Int.reduceMul, Int.reduceEq, ← Bool.decide_and, ← Bool.decide_or, ↓tq_n, ↓tq_e, ↓tq_r, ↓bq_n, ↓bq_e, ↓bq_r, ↓rq_n, ↓rq_r, ↓rq_e]
    refine CallS.mk (s_dating_limit k2 (i := p) (j := 0) hpn (by omega) (-x.cl.1)) fun r F3 hr => ?_
    subst hr
    have k3 := k2.lim (i := p) (j := 0) hpn (-x.cl.1)
    simp only [AH.blk_put_ne _ _ n0, AH.blk_put_ne _ _ n1, F_dating_solve, g_dating_solve, go_sem, reduceIte, Nat.reduceEqDiff, Nat.reduceAdd, Nat.reduceMul, Nat.reduceSub, reduceCtorEq, Nat.reduceLeDiff, Nat.reduceLT, Int.reduceLT, Int.reduceLE, Int.reduceToNat, Int.reduceAdd, Int.reduceSub, Int.reduceNeg, Int.reduceMul, Int.reduceEq, ← Bool.decide_and, ← Bool.decide_or, ↓tq_n, ↓tq_e, ↓tq_r, ↓bq_n, ↓bq_e, ↓bq_r, ↓rq_n, ↓rq_r, ↓rq_e]
    -- its coins
    have e3 : lim (lim (lims M0 (tyC c c.ty.length ++ hoC c q)) 0 p x.cl.2) p 0 (-x.cl.1) = lims M0 (tyC c c.ty.length ++ hoC c q ++ [(0, p, x.cl.2), (p, 0, -x.cl.1)] ++ coC x p 0) := by
      simp only [coC, List.append_nil, lims_append]; rfl
    have k3 := k3.cast e3
    refine awp_loop (α := Nat × AH) (fun y => [(1, .ptr b1 0), (5, .msl bm 0 i (some i)), (11, I p), (71, .sl c.nlH c.ho.length (hds c.ho) c.tlH), (72, I c.ho.length), (73, I q), (98, .sl x.nl x.coins.length (prs x.coins) x.tl), (99, I x.coins.length), (100, I y.1)]) (fun y => y.2)
      (fun y => y.1 ≤ x.coins.length ∧ MInv H bm B i i (lims M0 (tyC c c.ty.length ++ hoC c q ++ [(0, p, x.cl.2), (p, 0, -x.cl.1)] ++ coC x p y.1)) y.2) (fun y => x.coins.length - y.1)
      (0, _) ⟨Nat.zero_le _, k3⟩ (GStep.forget (by repeat' first | exact EnvLe.nil _ | refine EnvLe.cons (AV.le.of_eq rfl) ?_ | refine EnvLe.cons (AV.le.undef _) ?_ | refine EnvLe.cons AV.le.unk ?_) (by repeat' first | exact AH.le.refl _ | assumption | (refine AH.le_put ?_ (by first | assumption | exact (AH.blk_put_ne _ _ (by assumption)).trans (by assumption) | exact AH.none_put (by assumption) | exact AH.none_put (AH.none_put (by assumption)) | (simp only [AH.blk_setTok, AH.tok_put] at *; first | assumption | exact AH.none_put (by assumption)))) | (refine AH.le_setTok ?_ (by first | assumption | exact (AH.blk_put_ne _ _ (by assumption)).trans (by assumption) | exact AH.none_put (by assumption) | exact AH.none_put (AH.none_put (by assumption)) | (simp only [AH.blk_setTok, AH.tok_put] at *; first | assumption | exact AH.none_put (by assumption)))) | (refine AH.le_putM ?_ (by first | assumption | exact (AH.mp_putM_ne _ _ (by assumption)).trans (by assumption) | (simp only [AH.mp_put, AH.mp_setTok] at *; assumption))))) fun y hy' => .of_vg hm ?_
    clear k1 k2 k3
    obtain ⟨j, F4⟩ := y
    obtain ⟨hj, k4⟩ := hy'
    simp only at hj k4 ⊢
    by_cases hjc : j < x.coins.length
    · have hc2 : (j : Int) < (x.coins.length : Int) := by omega
      have hco := hcoin j hjc
      obtain ⟨ky, hky⟩ : ∃ ky : Nat, (x.coins.getD j (0, 0)).1 = ky := ⟨(x.coins.getD j (0, 0)).1.toNat, by omega⟩
      have hkyn : ky < i := by rw [← hn]; unfold nV; omega
      simp only [hc2, prs_drop hjc, hky, F_dating_solve, g_dating_solve, go_sem, reduceIte, Nat.reduceEqDiff, Nat.reduceAdd, Nat.reduceMul, Nat.reduceSub, reduceCtorEq, Nat.reduceLeDiff, Nat.reduceLT, Int.reduceLT, Int.reduceLE, Int.reduceToNat, Int.reduceAdd, Int.reduceSub, Int.reduceNeg, Int.reduceMul, Int.reduceEq, ← Bool.decide_and, ← Bool.decide_or, ↓tq_n, ↓tq_e, ↓tq_r, ↓bq_n, ↓bq_e, ↓bq_r, ↓rq_n, ↓rq_r, ↓rq_e]
      refine AllocG.mk fun b9 hb9 => ?_
      have k5 := k4.other hb9 [I ky, I (x.coins.getD j (0, 0)).2]
      simp only [F_dating_solve, g_dating_solve, go_sem, reduceIte, Nat.reduceEqDiff, Nat.reduceAdd, Nat.reduceMul, Nat.reduceSub, reduceCtorEq, Nat.reduceLeDiff, Nat.reduceLT, Int.reduceLT, Int.reduceLE, Int.reduceToNat, Int.reduceAdd, Int.reduceSub, Int.reduceNeg, Int.reduceMul, Int.reduceEq, ← Bool.decide_and, ← Bool.decide_or, ↓tq_n, ↓tq_e, ↓tq_r, ↓bq_n, ↓bq_e, ↓bq_r, ↓rq_n, ↓rq_r, ↓rq_e]
      refine CallS.mk (s_dating_limit k5 (i := p) (j := ky) hpn hkyn 0) fun r F5 hr => ?_
      subst hr
      have k6 := k5.lim (i := p) (j := ky) hpn 0
      simp only [F_dating_solve, g_dating_solve, go_sem, reduceIte, Nat.reduceEqDiff, Nat.reduceAdd, Nat.reduceMul, Nat.reduceSub, reduceCtorEq, Nat.reduceLeDiff, Nat.reduceLT, Int.reduceLT, Int.reduceLE, Int.reduceToNat, Int.reduceAdd, Int.reduceSub, Int.reduceNeg, Int.reduceMul, Int.reduceEq, ← Bool.decide_and, ← Bool.decide_or, ↓tq_n, ↓tq_e, ↓tq_r, ↓bq_n, ↓bq_e, ↓bq_r, ↓rq_n, ↓rq_r, ↓rq_e]
      refine ⟨by rw [inR64]; omega, (j + 1, _), ⟨by simp only; omega, ?_⟩, by simp only; omega, (GStep.forget (by repeat' first | exact EnvLe.nil _ | refine EnvLe.cons (AV.le.of_eq rfl) ?_ | refine EnvLe.cons (AV.le.undef _) ?_ | refine EnvLe.cons AV.le.unk ?_) (by repeat' first | exact AH.le.refl _ | assumption | (refine AH.le_put ?_ (by first | assumption | exact (AH.blk_put_ne _ _ (by assumption)).trans (by assumption) | exact AH.none_put (by assumption) | exact AH.none_put (AH.none_put (by assumption)) | (simp only [AH.blk_setTok, AH.tok_put] at *; first | assumption | exact AH.none_put (by assumption)))) | (refine AH.le_setTok ?_ (by first | assumption | exact (AH.blk_put_ne _ _ (by assumption)).trans (by assumption) | exact AH.none_put (by assumption) | exact AH.none_put (AH.none_put (by assumption)) | (simp only [AH.blk_setTok, AH.tok_put] at *; first | assumption | exact AH.none_put (by assumption)))) | (refine AH.le_putM ?_ (by first | assumption | exact (AH.mp_putM_ne _ _ (by assumption)).trans (by assumption) | (simp only [AH.mp_put, AH.mp_setTok] at *; assumption)))))⟩
      have : lims M0 (tyC c c.ty.length ++ hoC c q ++ [(0, p, x.cl.2), (p, 0, -x.cl.1)] ++ coC x p (j + 1)) = lim (lims M0 (tyC c c.ty.length ++ hoC c q ++ [(0, p, x.cl.2), (p, 0, -x.cl.1)] ++ coC x p j)) p ky 0 := by
        simp only [coC, ← List.append_assoc, lims_append, lims_one, hky, Int.toNat_natCast]
      rw [this]; exact k6
    · have hjc : j = x.coins.length := by omega
      subst hjc
      simp only [F_dating_solve, g_dating_solve, go_sem, reduceIte, Nat.reduceEqDiff, Nat.reduceAdd, Nat.reduceMul, Nat.reduceSub, reduceCtorEq, Nat.reduceLeDiff, Nat.reduceLT, Int.reduceLT, Int.reduceLE, Int.reduceToNat, Int.reduceAdd, Int.reduceSub, Int.reduceNeg, Int.reduceMul, Int.reduceEq, ← Bool.decide_and, ← Bool.decide_or, ↓tq_n, ↓tq_e, ↓tq_r, ↓bq_n, ↓bq_e, ↓bq_r, ↓rq_n, ↓rq_r, ↓rq_e]
      refine ⟨by rw [inR64]; omega, (q + 1, _), ⟨by simp only; omega, ?_⟩, by simp only; omega, (GStep.forget (by repeat' first | exact EnvLe.nil _ | refine EnvLe.cons (AV.le.of_eq rfl) ?_ | refine EnvLe.cons (AV.le.undef _) ?_ | refine EnvLe.cons AV.le.unk ?_) (by repeat' first | exact AH.le.refl _ | assumption | (refine AH.le_put ?_ (by first | assumption | exact (AH.blk_put_ne _ _ (by assumption)).trans (by assumption) | exact AH.none_put (by assumption) | exact AH.none_put (AH.none_put (by assumption)) | (simp only [AH.blk_setTok, AH.tok_put] at *; first | assumption | exact AH.none_put (by assumption)))) | (refine AH.le_setTok ?_ (by first | assumption | exact (AH.blk_put_ne _ _ (by assumption)).trans (by assumption) | exact AH.none_put (by assumption) | exact AH.none_put (AH.none_put (by assumption)) | (simp only [AH.blk_setTok, AH.tok_put] at *; first | assumption | exact AH.none_put (by assumption)))) | (refine AH.le_putM ?_ (by first | assumption | exact (AH.mp_putM_ne _ _ (by assumption)).trans (by assumption) | (simp only [AH.mp_put, AH.mp_setTok] at *; assumption)))))⟩
      rw [ehoc]
      simp only [← List.append_assoc]
      exact k4
  have hqt : q = c.ho.length := by omega
  subst hqt
  clear hq
  have hG1 := hk.le.blk b1 _ Hb
  have e0 : lims M0 (tyC c c.ty.length ++ hoC c c.ho.length) = lims M0 (tyC c c.ty.length ++ hoC c c.ho.length ++ gaC c 0) := by simp [gaC]
  rw [e0] at hk
  simp only [hG1, F_dating_solve, g_dating_solve, go_sem, reduceIte, Nat.reduceEqDiff, Nat.reduceAdd, Nat.reduceMul, Nat.reduceSub, reduceCtorEq, Nat.reduceLeDiff, Nat.reduceLT, Int.reduceLT, Int.reduceLE, Int.reduceToNat, Int.reduceAdd, Int.reduceSub, Int.reduceNeg, Int.reduceMul, Int.reduceEq, ← Bool.decide_and, ← Bool.decide_or, ↓tq_n, ↓tq_e, ↓tq_r, ↓bq_n, ↓bq_e, ↓bq_r, ↓rq_n, ↓rq_r, ↓rq_e]
  clear hG1
  -- the gaps
  refine awp_loop (α := Nat × AH) (fun x => [(1, .ptr b1 0), (5, .msl bm 0 i (some i)), (112, .sl c.nlG c.ga.length (trs c.ga) c.tlG), (113, I c.ga.length), (114, I x.1)]) (fun x => x.2) (fun x => x.1 ≤ c.ga.length ∧ MInv H bm B i i (lims M0 (tyC c c.ty.length ++ hoC c c.ho.length ++ gaC c x.1)) x.2) (fun x => c.ga.length - x.1)
    (0, F1) ⟨Nat.zero_le _, hk⟩ (GStep.forget (by repeat' first | exact EnvLe.nil _ | refine EnvLe.cons (AV.le.of_eq rfl) ?_ | refine EnvLe.cons (AV.le.undef _) ?_ | refine EnvLe.cons AV.le.unk ?_) (by repeat' first | exact AH.le.refl _ | assumption | (refine AH.le_put ?_ (by first | assumption | exact (AH.blk_put_ne _ _ (by assumption)).trans (by assumption) | exact AH.none_put (by assumption) | exact AH.none_put (AH.none_put (by assumption)) | (simp only [AH.blk_setTok, AH.tok_put] at *; first | assumption | exact AH.none_put (by assumption)))) | (refine AH.le_setTok ?_ (by first | assumption | exact (AH.blk_put_ne _ _ (by assumption)).trans (by assumption) | exact AH.none_put (by assumption) | exact AH.none_put (AH.none_put (by assumption)) | (simp only [AH.blk_setTok, AH.tok_put] at *; first | assumption | exact AH.none_put (by assumption)))) | (refine AH.le_putM ?_ (by first | assumption | exact (AH.mp_putM_ne _ _ (by assumption)).trans (by assumption) | (simp only [AH.mp_put, AH.mp_setTok] at *; assumption))))) fun x hx => .of_vg hm ?_
  clear hk
  obtain ⟨q, F2⟩ := x
  obtain ⟨hq, hk⟩ := hx
  simp only at hq hk ⊢
  by_cases hqt : q < c.ga.length
  · have hc1 : (q : Int) < (c.ga.length : Int) := by omega
    have hg := hv.2.2.2 q hqt
    unfold gOK at hg
    have egac : gaC c (q + 1) = gaC c q ++ [((c.ga.getD q (0, 0, 0)).1.toNat, (c.ga.getD q (0, 0, 0)).2.1.toNat, (c.ga.getD q (0, 0, 0)).2.2)] := rfl
    simp only [hc1, trs_drop hqt, F_dating_solve, g_dating_solve, go_sem, reduceIte, Nat.reduceEqDiff, Nat.reduceAdd, Nat.reduceMul, Nat.reduceSub, reduceCtorEq, Nat.reduceLeDiff, Nat.reduceLT, Int.reduceLT, Int.reduceLE, Int.reduceToNat, Int.reduceAdd, Int.reduceSub, Int.reduceNeg, Int.reduceMul, Int.reduceEq, ← Bool.decide_and, ← Bool.decide_or, ↓tq_n, ↓tq_e, ↓tq_r, ↓bq_n, ↓bq_e, ↓bq_r, ↓rq_n, ↓rq_r, ↓rq_e]
    refine AllocG.mk fun b8 hb8 => ?_
    obtain ⟨g1, hg1⟩ : ∃ g1 : Nat, (c.ga.getD q (0, 0, 0)).1 = g1 := ⟨(c.ga.getD q (0, 0, 0)).1.toNat, by omega⟩
    obtain ⟨g2, hg2⟩ : ∃ g2 : Nat, (c.ga.getD q (0, 0, 0)).2.1 = g2 := ⟨(c.ga.getD q (0, 0, 0)).2.1.toNat, by omega⟩
    rw [hg1, hg2] at hg egac ⊢
    have g1n : g1 < i := by rw [← hn]; unfold nV; omega
    have g2n : g2 < i := by rw [← hn]; unfold nV; omega
    have k1 := hk.other hb8 [I g1, I g2, I (c.ga.getD q (0, 0, 0)).2.2]
    simp only [F_dating_solve, g_dating_solve, go_sem, reduceIte, Nat.reduceEqDiff, Nat.reduceAdd, Nat.reduceMul, Nat.reduceSub, reduceCtorEq, Nat.reduceLeDiff, Nat.reduceLT, Int.reduceLT, Int.reduceLE, Int.reduceToNat, Int.reduceAdd, Int.reduceSub, Int.reduceNeg, Int.reduceMul, Int.reduceEq, ← Bool.decide_and, ← Bool.decide_or, ↓tq_n, ↓tq_e, ↓tq_r, ↓bq_n, ↓bq_e, ↓bq_r, ↓rq_n, ↓rq_r, ↓rq_e]
    refine CallS.mk (s_dating_limit k1 (i := g1) (j := g2) g1n g2n (c.ga.getD q (0, 0, 0)).2.2) fun r F3 hr => ?_
    subst hr
    have k2 := k1.lim (i := g1) (j := g2) g1n (c.ga.getD q (0, 0, 0)).2.2
    simp only [F_dating_solve, g_dating_solve, go_sem, reduceIte, Nat.reduceEqDiff, Nat.reduceAdd, Nat.reduceMul, Nat.reduceSub, reduceCtorEq, Nat.reduceLeDiff, Nat.reduceLT, Int.reduceLT, Int.reduceLE, Int.reduceToNat, Int.reduceAdd, Int.reduceSub, Int.reduceNeg, Int.reduceMul, Int.reduceEq, ← Bool.decide_and, ← Bool.decide_or, ↓tq_n, ↓tq_e, ↓tq_r, ↓bq_n, ↓bq_e, ↓bq_r, ↓rq_n, ↓rq_r, ↓rq_e]
    refine ⟨by rw [inR64]; omega, (q + 1, _), ⟨by simp only; omega, ?_⟩, by simp only; omega, (GStep.forget (by repeat' first | exact EnvLe.nil _ | refine EnvLe.cons (AV.le.of_eq rfl) ?_ | refine EnvLe.cons (AV.le.undef _) ?_ | refine EnvLe.cons AV.le.unk ?_) (by repeat' first | exact AH.le.refl _ | assumption | (refine AH.le_put ?_ (by first | assumption | exact (AH.blk_put_ne _ _ (by assumption)).trans (by assumption) | exact AH.none_put (by assumption) | exact AH.none_put (AH.none_put (by assumption)) | (simp only [AH.blk_setTok, AH.tok_put] at *; first | assumption | exact AH.none_put (by assumption)))) | (refine AH.le_setTok ?_ (by first | assumption | exact (AH.blk_put_ne _ _ (by assumption)).trans (by assumption) | exact AH.none_put (by assumption) | exact AH.none_put (AH.none_put (by assumption)) | (simp only [AH.blk_setTok, AH.tok_put] at *; first | assumption | exact AH.none_put (by assumption)))) | (refine AH.le_putM ?_ (by first | assumption | exact (AH.mp_putM_ne _ _ (by assumption)).trans (by assumption) | (simp only [AH.mp_put, AH.mp_setTok] at *; assumption)))))⟩
    rw [egac]
    simp only [← List.append_assoc, lims_append _ _ [_], lims_one, Int.toNat_natCast]
    exact k2
  have hqt : q = c.ga.length := by omega
  subst hqt
  clear hq
  have e0 : lims M0 (tyC c c.ty.length ++ hoC c c.ho.length ++ gaC c c.ga.length) = fw (Mi c) i 0 := by
    simp only [Mi, allC, fw, List.append_assoc]
  rw [e0] at hk
  simp only [F_dating_solve, g_dating_solve, go_sem, reduceIte, Nat.reduceEqDiff, Nat.reduceAdd, Nat.reduceMul, Nat.reduceSub, reduceCtorEq, Nat.reduceLeDiff, Nat.reduceLT, Int.reduceLT, Int.reduceLE, Int.reduceToNat, Int.reduceAdd, Int.reduceSub, Int.reduceNeg, Int.reduceMul, Int.reduceEq, ← Bool.decide_and, ← Bool.decide_or, ↓tq_n, ↓tq_e, ↓tq_r, ↓bq_n, ↓bq_e, ↓bq_r, ↓rq_n, ↓rq_r, ↓rq_e]
  -- the closing
  refine awp_loop (α := Nat × AH) (fun x => [(5, .msl bm 0 i (some i)), (128, I i), (129, I x.1)]) (fun x => x.2) (fun x => x.1 ≤ i ∧ MInv H bm B i i (fw (Mi c) i x.1) x.2) (fun x => i - x.1) (0, F2) ⟨Nat.zero_le _, hk⟩ (GStep.forget (by repeat' first | exact EnvLe.nil _ | refine EnvLe.cons (AV.le.of_eq rfl) ?_ | refine EnvLe.cons (AV.le.undef _) ?_ | refine EnvLe.cons AV.le.unk ?_) (by repeat' first | exact AH.le.refl _ | assumption | (refine AH.le_put ?_ (by first | assumption | exact (AH.blk_put_ne _ _ (by assumption)).trans (by assumption) | exact AH.none_put (by assumption) | exact AH.none_put (AH.none_put (by assumption)) | (simp only [AH.blk_setTok, AH.tok_put] at *; first | assumption | exact AH.none_put (by assumption)))) | (refine AH.le_setTok ?_ (by first | assumption | exact (AH.blk_put_ne _ _ (by assumption)).trans (by assumption) | exact AH.none_put (by assumption) | exact AH.none_put (AH.none_put (by assumption)) | (simp only [AH.blk_setTok, AH.tok_put] at *; first | assumption | exact AH.none_put (by assumption)))) | (refine AH.le_putM ?_ (by first | assumption | exact (AH.mp_putM_ne _ _ (by assumption)).trans (by assumption) | (simp only [AH.mp_put, AH.mp_setTok] at *; assumption))))) fun x hx => .of_vg hm ?_
  clear hk
  obtain ⟨k, F3⟩ := x
  obtain ⟨hkn, hk⟩ := hx
  simp only at hkn hk ⊢
  by_cases hki : k < i
  · have hc1 : (k : Int) < (i : Int) := by omega
    simp only [hc1, F_dating_solve, g_dating_solve, go_sem, reduceIte, Nat.reduceEqDiff, Nat.reduceAdd, Nat.reduceMul, Nat.reduceSub, reduceCtorEq, Nat.reduceLeDiff, Nat.reduceLT, Int.reduceLT, Int.reduceLE, Int.reduceToNat, Int.reduceAdd, Int.reduceSub, Int.reduceNeg, Int.reduceMul, Int.reduceEq, ← Bool.decide_and, ← Bool.decide_or, ↓tq_n, ↓tq_e, ↓tq_r, ↓bq_n, ↓bq_e, ↓bq_r, ↓rq_n, ↓rq_r, ↓rq_e]
    refine awp_loop (α := Nat × AH) (fun x => [(5, .msl bm 0 i (some i)), (16, I k), (128, I i), (129, I k), (133, I i), (134, I x.1)]) (fun x => x.2) (fun x => x.1 ≤ i ∧ MInv H bm B i i (colU (fw (Mi c) i k) k i x.1) x.2) (fun x => i - x.1) (0, F3) ⟨Nat.zero_le _, hk⟩ (GStep.forget (by repeat' first | exact EnvLe.nil _ | refine EnvLe.cons (AV.le.of_eq rfl) ?_ | refine EnvLe.cons (AV.le.undef _) ?_ | refine EnvLe.cons AV.le.unk ?_) (by repeat' first | exact AH.le.refl _ | assumption | (refine AH.le_put ?_ (by first | assumption | exact (AH.blk_put_ne _ _ (by assumption)).trans (by assumption) | exact AH.none_put (by assumption) | exact AH.none_put (AH.none_put (by assumption)) | (simp only [AH.blk_setTok, AH.tok_put] at *; first | assumption | exact AH.none_put (by assumption)))) | (refine AH.le_setTok ?_ (by first | assumption | exact (AH.blk_put_ne _ _ (by assumption)).trans (by assumption) | exact AH.none_put (by assumption) | exact AH.none_put (AH.none_put (by assumption)) | (simp only [AH.blk_setTok, AH.tok_put] at *; first | assumption | exact AH.none_put (by assumption)))) | (refine AH.le_putM ?_ (by first | assumption | exact (AH.mp_putM_ne _ _ (by assumption)).trans (by assumption) | (simp only [AH.mp_put, AH.mp_setTok] at *; assumption))))) fun x hx => .of_vg hm ?_
    clear hk
    obtain ⟨r, F4⟩ := x
    obtain ⟨hrn, hk⟩ := hx
    simp only at hrn hk ⊢
    by_cases hri : r < i
    · have hc2 : (r : Int) < (i : Int) := by omega
      simp only [hc2, F_dating_solve, g_dating_solve, go_sem, reduceIte, Nat.reduceEqDiff, Nat.reduceAdd, Nat.reduceMul, Nat.reduceSub, reduceCtorEq, Nat.reduceLeDiff, Nat.reduceLT, Int.reduceLT, Int.reduceLE, Int.reduceToNat, Int.reduceAdd, Int.reduceSub, Int.reduceNeg, Int.reduceMul, Int.reduceEq, ← Bool.decide_and, ← Bool.decide_or, ↓tq_n, ↓tq_e, ↓tq_r, ↓bq_n, ↓bq_e, ↓bq_r, ↓rq_n, ↓rq_r, ↓rq_e]
      refine awp_loop (α := Nat × AH) (fun x => [(5, .msl bm 0 i (some i)), (16, I k), (17, I r), (128, I i), (129, I k), (133, I i), (134, I r), (138, I i), (139, I x.1)]) (fun x => x.2) (fun x => x.1 ≤ i ∧ MInv H bm B i i (rowU (colU (fw (Mi c) i k) k i r) k r x.1) x.2) (fun x => i - x.1) (0, F4) ⟨Nat.zero_le _, hk⟩ (GStep.forget (by repeat' first | exact EnvLe.nil _ | refine EnvLe.cons (AV.le.of_eq rfl) ?_ | refine EnvLe.cons (AV.le.undef _) ?_ | refine EnvLe.cons AV.le.unk ?_) (by repeat' first | exact AH.le.refl _ | assumption | (refine AH.le_put ?_ (by first | assumption | exact (AH.blk_put_ne _ _ (by assumption)).trans (by assumption) | exact AH.none_put (by assumption) | exact AH.none_put (AH.none_put (by assumption)) | (simp only [AH.blk_setTok, AH.tok_put] at *; first | assumption | exact AH.none_put (by assumption)))) | (refine AH.le_setTok ?_ (by first | assumption | exact (AH.blk_put_ne _ _ (by assumption)).trans (by assumption) | exact AH.none_put (by assumption) | exact AH.none_put (AH.none_put (by assumption)) | (simp only [AH.blk_setTok, AH.tok_put] at *; first | assumption | exact AH.none_put (by assumption)))) | (refine AH.le_putM ?_ (by first | assumption | exact (AH.mp_putM_ne _ _ (by assumption)).trans (by assumption) | (simp only [AH.mp_put, AH.mp_setTok] at *; assumption))))) fun x hx => .of_vg hm ?_
      clear hk
      obtain ⟨s, F5⟩ := x
      obtain ⟨hsn, hk⟩ := hx
      simp only at hsn hk ⊢
      by_cases hsi : s < i
      · have hc3 : (s : Int) < (i : Int) := by omega
        have hrng := fw_rng hv (k := k) (i := r) (j := s) (by rw [hn]; exact hki) r k k s
        rw [hn] at hrng
        have d1 := hk.cell hri (Nat.le_refl i)
        have d2 := hk.cell hki (Nat.le_refl i)
        have d3 := MInv.rowd (n := i) (rowU (colU (fw (Mi c) i k) k i r) k r s) r hki
        have d4 := MInv.rowd (n := i) (rowU (colU (fw (Mi c) i k) k i r) k r s) k hsi
        simp only [hc1, hc2, hc3, hk.mat, d1, d2, hk.row r hri, hk.row k hki, d3, d4, F_dating_solve, g_dating_solve, go_sem, reduceIte, Nat.reduceEqDiff, Nat.reduceAdd, Nat.reduceMul, Nat.reduceSub, reduceCtorEq, Nat.reduceLeDiff, Nat.reduceLT, Int.reduceLT, Int.reduceLE, Int.reduceToNat, Int.reduceAdd, Int.reduceSub, Int.reduceNeg, Int.reduceMul, Int.reduceEq, ← Bool.decide_and, ← Bool.decide_or, ↓tq_n, ↓tq_e, ↓tq_r, ↓bq_n, ↓bq_e, ↓bq_r, ↓rq_n, ↓rq_r, ↓rq_e]
        refine ⟨hrng, CallS.mk (s_dating_limit hk (i := r) (j := s) hri hsi _) fun rr F6 hr => ?_⟩
        subst hr
        have k2 := hk.lim (i := r) (j := s) hri (rowU (colU (fw (Mi c) i k) k i r) k r s r k + rowU (colU (fw (Mi c) i k) k i r) k r s k s)
        simp only [F_dating_solve, g_dating_solve, go_sem, reduceIte, Nat.reduceEqDiff, Nat.reduceAdd, Nat.reduceMul, Nat.reduceSub, reduceCtorEq, Nat.reduceLeDiff, Nat.reduceLT, Int.reduceLT, Int.reduceLE, Int.reduceToNat, Int.reduceAdd, Int.reduceSub, Int.reduceNeg, Int.reduceMul, Int.reduceEq, ← Bool.decide_and, ← Bool.decide_or, ↓tq_n, ↓tq_e, ↓tq_r, ↓bq_n, ↓bq_e, ↓bq_r, ↓rq_n, ↓rq_r, ↓rq_e]
        exact ⟨by rw [inR64]; omega, (s + 1, _), ⟨by simp only; omega, k2⟩, by simp only; omega, (GStep.forget (by repeat' first | exact EnvLe.nil _ | refine EnvLe.cons (AV.le.of_eq rfl) ?_ | refine EnvLe.cons (AV.le.undef _) ?_ | refine EnvLe.cons AV.le.unk ?_) (by repeat' first | exact AH.le.refl _ | assumption | (refine AH.le_put ?_ (by first | assumption | exact (AH.blk_put_ne _ _ (by assumption)).trans (by assumption) | exact AH.none_put (by assumption) | exact AH.none_put (AH.none_put (by assumption)) | (simp only [AH.blk_setTok, AH.tok_put] at *; first | assumption | exact AH.none_put (by assumption)))) | (refine AH.le_setTok ?_ (by first | assumption | exact (AH.blk_put_ne _ _ (by assumption)).trans (by assumption) | exact AH.none_put (by assumption) | exact AH.none_put (AH.none_put (by assumption)) | (simp only [AH.blk_setTok, AH.tok_put] at *; first | assumption | exact AH.none_put (by assumption)))) | (refine AH.le_putM ?_ (by first | assumption | exact (AH.mp_putM_ne _ _ (by assumption)).trans (by assumption) | (simp only [AH.mp_put, AH.mp_setTok] at *; assumption)))))⟩
      · have hsi : s = i := by omega
        subst hsi
        simp only [F_dating_solve, g_dating_solve, go_sem, reduceIte, Nat.reduceEqDiff, Nat.reduceAdd, Nat.reduceMul, Nat.reduceSub, reduceCtorEq, Nat.reduceLeDiff, Nat.reduceLT, Int.reduceLT, Int.reduceLE, Int.reduceToNat, Int.reduceAdd, Int.reduceSub, Int.reduceNeg, Int.reduceMul, Int.reduceEq, ← Bool.decide_and, ← Bool.decide_or, ↓tq_n, ↓tq_e, ↓tq_r, ↓bq_n, ↓bq_e, ↓bq_r, ↓rq_n, ↓rq_r, ↓rq_e]
        exact ⟨by rw [inR64]; omega, (r + 1, _), ⟨by simp only; omega, hk⟩, by simp only; omega, (GStep.forget (by repeat' first | exact EnvLe.nil _ | refine EnvLe.cons (AV.le.of_eq rfl) ?_ | refine EnvLe.cons (AV.le.undef _) ?_ | refine EnvLe.cons AV.le.unk ?_) (by repeat' first | exact AH.le.refl _ | assumption | (refine AH.le_put ?_ (by first | assumption | exact (AH.blk_put_ne _ _ (by assumption)).trans (by assumption) | exact AH.none_put (by assumption) | exact AH.none_put (AH.none_put (by assumption)) | (simp only [AH.blk_setTok, AH.tok_put] at *; first | assumption | exact AH.none_put (by assumption)))) | (refine AH.le_setTok ?_ (by first | assumption | exact (AH.blk_put_ne _ _ (by assumption)).trans (by assumption) | exact AH.none_put (by assumption) | exact AH.none_put (AH.none_put (by assumption)) | (simp only [AH.blk_setTok, AH.tok_put] at *; first | assumption | exact AH.none_put (by assumption)))) | (refine AH.le_putM ?_ (by first | assumption | exact (AH.mp_putM_ne _ _ (by assumption)).trans (by assumption) | (simp only [AH.mp_put, AH.mp_setTok] at *; assumption)))))⟩
    · have hri : r = i := by omega
      subst hri
      simp only [F_dating_solve, g_dating_solve, go_sem, reduceIte, Nat.reduceEqDiff, Nat.reduceAdd, Nat.reduceMul, Nat.reduceSub, reduceCtorEq, Nat.reduceLeDiff, Nat.reduceLT, Int.reduceLT, Int.reduceLE, Int.reduceToNat, Int.reduceAdd, Int.reduceSub, Int.reduceNeg, Int.reduceMul, Int.reduceEq, ← Bool.decide_and, ← Bool.decide_or, ↓tq_n, ↓tq_e, ↓tq_r, ↓bq_n, ↓bq_e, ↓bq_r, ↓rq_n, ↓rq_r, ↓rq_e]
      exact ⟨by rw [inR64]; omega, (k + 1, _), ⟨by simp only; omega, hk⟩, by simp only; omega, (GStep.forget (by repeat' first | exact EnvLe.nil _ | refine EnvLe.cons (AV.le.of_eq rfl) ?_ | refine EnvLe.cons (AV.le.undef _) ?_ | refine EnvLe.cons AV.le.unk ?_) (by repeat' first | exact AH.le.refl _ | assumption | (refine AH.le_put ?_ (by first | assumption | exact (AH.blk_put_ne _ _ (by assumption)).trans (by assumption) | exact AH.none_put (by assumption) | exact AH.none_put (AH.none_put (by assumption)) | (simp only [AH.blk_setTok, AH.tok_put] at *; first | assumption | exact AH.none_put (by assumption)))) | (refine AH.le_setTok ?_ (by first | assumption | exact (AH.blk_put_ne _ _ (by assumption)).trans (by assumption) | exact AH.none_put (by assumption) | exact AH.none_put (AH.none_put (by assumption)) | (simp only [AH.blk_setTok, AH.tok_put] at *; first | assumption | exact AH.none_put (by assumption)))) | (refine AH.le_putM ?_ (by first | assumption | exact (AH.mp_putM_ne _ _ (by assumption)).trans (by assumption) | (simp only [AH.mp_put, AH.mp_setTok] at *; assumption)))))⟩
  have hki : k = i := by omega
  subst hki
  simp only [F_dating_solve, g_dating_solve, go_sem, reduceIte, Nat.reduceEqDiff, Nat.reduceAdd, Nat.reduceMul, Nat.reduceSub, reduceCtorEq, Nat.reduceLeDiff, Nat.reduceLT, Int.reduceLT, Int.reduceLE, Int.reduceToNat, Int.reduceAdd, Int.reduceSub, Int.reduceNeg, Int.reduceMul, Int.reduceEq, ← Bool.decide_and, ← Bool.decide_or, ↓tq_n, ↓tq_e, ↓tq_r, ↓bq_n, ↓bq_e, ↓bq_r, ↓rq_n, ↓rq_r, ↓rq_e]
  have eM : fw (Mi c) k k = Mf c := by unfold Mf; rw [hn]
  rw [eM] at hk
  -- the diagonal
  refine awp_loop (fun x : Nat => [(5, .msl bm 0 k (some k)), (165, I k), (166, I x)]) (fun _ => F3) (fun x => x ≤ k ∧ ∀ a, a < x → 0 ≤ Mf c a a) (fun x => k - x) 0 ⟨Nat.zero_le _, fun a ha => absurd ha (Nat.not_lt_zero _)⟩ (GStep.forget (by repeat' first | exact EnvLe.nil _ | refine EnvLe.cons (AV.le.of_eq rfl) ?_ | refine EnvLe.cons (AV.le.undef _) ?_ | refine EnvLe.cons AV.le.unk ?_) (by repeat' first | exact AH.le.refl _ | assumption | (refine AH.le_put ?_ (by first | assumption | exact (AH.blk_put_ne _ _ (by assumption)).trans (by assumption) | exact AH.none_put (by assumption) | exact AH.none_put (AH.none_put (by assumption)) | (simp only [AH.blk_setTok, AH.tok_put] at *; first | assumption | exact AH.none_put (by assumption)))) | (refine AH.le_setTok ?_ (by first | assumption | exact (AH.blk_put_ne _ _ (by assumption)).trans (by assumption) | exact AH.none_put (by assumption) | exact AH.none_put (AH.none_put (by assumption)) | (simp only [AH.blk_setTok, AH.tok_put] at *; first | assumption | exact AH.none_put (by assumption)))) | (refine AH.le_putM ?_ (by first | assumption | exact (AH.mp_putM_ne _ _ (by assumption)).trans (by assumption) | (simp only [AH.mp_put, AH.mp_setTok] at *; assumption))))) fun x hx => .of_vg hm ?_
  obtain ⟨hxn, hxa⟩ := hx
  by_cases hxk : x < k
  · have hc1 : (x : Int) < (k : Int) := by omega
    have d1 := hk.cell hxk (Nat.le_refl k)
    have d2 := MInv.rowd (n := k) (Mf c) x hxk
    simp only [hc1, hk.mat, d1, hk.row x hxk, d2, F_dating_solve, g_dating_solve, go_sem, reduceIte, Nat.reduceEqDiff, Nat.reduceAdd, Nat.reduceMul, Nat.reduceSub, reduceCtorEq, Nat.reduceLeDiff, Nat.reduceLT, Int.reduceLT, Int.reduceLE, Int.reduceToNat, Int.reduceAdd, Int.reduceSub, Int.reduceNeg, Int.reduceMul, Int.reduceEq, ← Bool.decide_and, ← Bool.decide_or, ↓tq_n, ↓tq_e, ↓tq_r, ↓bq_n, ↓bq_e, ↓bq_r, ↓rq_n, ↓rq_r, ↓rq_e]
    refine ⟨fun h1 => ?_, fun h1 => ⟨by rw [inR64]; omega, x + 1, ⟨by omega, all_succ hxa (by omega)⟩, by omega, (GStep.forget (by repeat' first | exact EnvLe.nil _ | refine EnvLe.cons (AV.le.of_eq rfl) ?_ | refine EnvLe.cons (AV.le.undef _) ?_ | refine EnvLe.cons AV.le.unk ?_) (by repeat' first | exact AH.le.refl _ | assumption | (refine AH.le_put ?_ (by first | assumption | exact (AH.blk_put_ne _ _ (by assumption)).trans (by assumption) | exact AH.none_put (by assumption) | exact AH.none_put (AH.none_put (by assumption)) | (simp only [AH.blk_setTok, AH.tok_put] at *; first | assumption | exact AH.none_put (by assumption)))) | (refine AH.le_setTok ?_ (by first | assumption | exact (AH.blk_put_ne _ _ (by assumption)).trans (by assumption) | exact AH.none_put (by assumption) | exact AH.none_put (AH.none_put (by assumption)) | (simp only [AH.blk_setTok, AH.tok_put] at *; first | assumption | exact AH.none_put (by assumption)))) | (refine AH.le_putM ?_ (by first | assumption | exact (AH.mp_putM_ne _ _ (by assumption)).trans (by assumption) | (simp only [AH.mp_put, AH.mp_setTok] at *; assumption)))))⟩⟩
    have hno : ¬ Ok c := fun ho => by have := ho x (by rw [hn]; exact hxk); omega
    refine ret_hb (AH.le.trans Hle hk.le) ?_
    rw [if_neg hno]
    simp [hno]
  · have hxk : x = k := by omega
    subst hxk
    have hok : Ok c := fun a ha => hxa a (by rw [hn] at ha; exact ha)
    simp only [F_dating_solve, g_dating_solve, go_sem, reduceIte, Nat.reduceEqDiff, Nat.reduceAdd, Nat.reduceMul, Nat.reduceSub, reduceCtorEq, Nat.reduceLeDiff, Nat.reduceLT, Int.reduceLT, Int.reduceLE, Int.reduceToNat, Int.reduceAdd, Int.reduceSub, Int.reduceNeg, Int.reduceMul, Int.reduceEq, ← Bool.decide_and, ← Bool.decide_or, ↓tq_n, ↓tq_e, ↓tq_r, ↓bq_n, ↓bq_e, ↓bq_r, ↓rq_n, ↓rq_r, ↓rq_e]
    refine ⟨_, h', (RGh.tup2 hk.fixAll (AV.le.refl _)).trans (RGh.forget (AV.le.refl _) Hle), ?_, rfl⟩
    rw [if_pos hok]
    simp [hok]
end Go.Proofs.Ytnekkkjedmlloaa
namespace Go.Proofs.Ytnekkkjedmlloaa
open Go Go.Abs
set_option linter.unusedSimpArgs false
set_option linter.unusedVariables false
set_option maxRecDepth 20000

/-- The years of a variable. -/
def zv (c : Cr) (i : Nat) : Int × Int := (-Mf c (1 + i) 0, Mf c 0 (1 + i))
def zA (c : Cr) (k : Nat) : List (Int × Int) := (List.range k).map (zv c)
def zT (c : Cr) : List (Int × Int) := zA c c.ty.length
def zH (c : Cr) : List (Int × Int) := (List.range c.ho.length).map fun i => zv c (c.ty.length + i)
theorem zA_len (c : Cr) (k : Nat) : (zA c k).length = k := by simp [zA]
theorem zT_len (c : Cr) : (zT c).length = c.ty.length := zA_len c _
theorem zH_len (c : Cr) : (zH c).length = c.ho.length := by simp [zH]
theorem zA_add (c : Cr) (k : Nat) : zA c (k + 1) = zA c k ++ [zv c k] := by simp [zA, List.range_succ]
theorem zA_take (c : Cr) (n m : Nat) (h : n ≤ m) : (zA c m).take n = zA c n := by
  unfold zA
  rw [← List.map_take, List.take_range, Nat.min_eq_left h]
theorem zA_drop (c : Cr) : (zA c (c.ty.length + c.ho.length)).drop c.ty.length = zH c := by
  apply List.ext_getElem
  · rw [List.length_drop, zA_len, zH_len]; omega
  · intro q h1 h2
    simp [zA, zH]
theorem zv_rng {c : Cr} (hv : VC c) (ho : Ok c) {i : Nat} (hi : 1 + i < nV c) : (-9999 ≤ (zv c i).1 ∧ (zv c i).1 ≤ 9999) ∧ (-9999 ≤ (zv c i).2 ∧ (zv c i).2 ≤ 9999) := by
  obtain ⟨h1, h2⟩ := ends_dt hv ho
  unfold nV at hi
  by_cases hT : i < c.ty.length
  · have a1 := h1.2.2.2.1 i hT
    have a2 := h2.2.2.2.1 i hT
    unfold loT at a1
    unfold hiT at a2
    rw [getD_rmap _ hT] at a1 a2
    have a3 := hv.2.1 i hT
    unfold Yv at a3
    unfold zv
    simp only
    omega
  · obtain ⟨j, rfl⟩ : ∃ j, i = c.ty.length + j := ⟨i - c.ty.length, by omega⟩
    have hj : j < c.ho.length := by omega
    have a1 := (h1.2.2.2.2.1 j hj).1
    have a2 := (h2.2.2.2.2.1 j hj).1
    unfold loH at a1
    unfold hiH at a2
    rw [getD_rmap _ hj] at a1 a2
    have a3 := (hv.2.2.1 j hj).1.2.2.2
    unfold Yv at a3
    unfold zv
    simp only [← Nat.add_assoc]
    omega

theorem r_slices_Clone_Years (nl : Bool) (e : List (Int × Int)) (tl : Tail) (hn : nl = true → e = []) (hl1 : e.length ≤ 1000) (h : AH) : RCall Try.prog n_slices_Clone_Years [.sl nl e.length (prs e) tl] h (.sl nl e.length (prs e) .unk) := by
  refine RCall.of hm cF_slices_Clone_Years (by simp [g_slices_Clone_Years]) fun hw h' hl => ?_
  cases nl with
  | true =>
    rw [hn rfl]
    simp only [F_slices_Clone_Years, g_slices_Clone_Years, go_sem, reduceIte, Nat.reduceEqDiff, Nat.reduceAdd, Nat.reduceMul, Nat.reduceSub, reduceCtorEq, Nat.reduceLeDiff, Nat.reduceLT, Int.reduceLT, Int.reduceLE, Int.reduceToNat, Int.reduceAdd, Int.reduceSub, Int.reduceNeg, Int.reduceMul, Int.reduceEq, ← Bool.decide_and, ← Bool.decide_or, ↓tq_n, ↓tq_e, ↓tq_r, ↓bq_n, ↓bq_e, ↓bq_r, ↓rq_n, ↓rq_r, ↓rq_e]
    exact ⟨_, h', .forget AV.le.unk (.refl _), rfl, rfl⟩
  | false =>
    simp only [F_slices_Clone_Years, g_slices_Clone_Years, go_sem, reduceIte, Nat.reduceEqDiff, Nat.reduceAdd, Nat.reduceMul, Nat.reduceSub, reduceCtorEq, Nat.reduceLeDiff, Nat.reduceLT, Int.reduceLT, Int.reduceLE, Int.reduceToNat, Int.reduceAdd, Int.reduceSub, Int.reduceNeg, Int.reduceMul, Int.reduceEq, ← Bool.decide_and, ← Bool.decide_or, ↓tq_n, ↓tq_e, ↓tq_r, ↓bq_n, ↓bq_e, ↓bq_r, ↓rq_n, ↓rq_r, ↓rq_e]
    refine ⟨prs_len _, by omega, by omega, TokG.mk fun t ht => ?_⟩
    simp only [F_slices_Clone_Years, g_slices_Clone_Years, go_sem, reduceIte, Nat.reduceEqDiff, Nat.reduceAdd, Nat.reduceMul, Nat.reduceSub, reduceCtorEq, Nat.reduceLeDiff, Nat.reduceLT, Int.reduceLT, Int.reduceLE, Int.reduceToNat, Int.reduceAdd, Int.reduceSub, Int.reduceNeg, Int.reduceMul, Int.reduceEq, ← Bool.decide_and, ← Bool.decide_or, ↓tq_n, ↓tq_e, ↓tq_r, ↓bq_n, ↓bq_e, ↓bq_r, ↓rq_n, ↓rq_r, ↓rq_e]
    simp only [Bool.false_and]
    exact ret_unk (by repeat' first | exact AH.le.refl _ | assumption | (refine AH.le_put ?_ (by first | assumption | exact (AH.blk_put_ne _ _ (by assumption)).trans (by assumption) | exact AH.none_put (by assumption) | exact AH.none_put (AH.none_put (by assumption)) | (simp only [AH.blk_setTok, AH.tok_put] at *; first | assumption | exact AH.none_put (by assumption)))) | (refine AH.le_setTok ?_ (by first | assumption | exact (AH.blk_put_ne _ _ (by assumption)).trans (by assumption) | exact AH.none_put (by assumption) | exact AH.none_put (AH.none_put (by assumption)) | (simp only [AH.blk_setTok, AH.tok_put] at *; first | assumption | exact AH.none_put (by assumption)))) | (refine AH.le_putM ?_ (by first | assumption | exact (AH.mp_putM_ne _ _ (by assumption)).trans (by assumption) | (simp only [AH.mp_put, AH.mp_setTok] at *; assumption))))

/-- The answers of Dates. -/
def datesV (c : Cr) : AV := if VC c then (if Ok c then .tup [.sl (decide (c.ty.length + c.ho.length = 0)) c.ty.length (prs (zT c)) .unk, .sl (decide (c.ty.length + c.ho.length = 0)) c.ho.length (prs (zH c)) .unk, I 0]
    else .tup [.sl true 0 [] .full, .sl true 0 [] .full, I 10]) else .tup [.sl true 0 [] .full, .sl true 0 [] .full, I 1]

theorem r_dating_Dates (c : Cr) (h : AH) : RCall Try.prog n_dating_Dates [.st c.cs] h (datesV c) := by
  refine RCall.of hm cF_dating_Dates (by simp [g_dating_Dates]) fun hw h' hl => ?_
  unfold datesV
  obtain ⟨hxT, hxH, hxG⟩ := cr_lens (n := 1) (hw _ (.head _))
  simp only [Cr.cs, F_dating_Dates, g_dating_Dates, go_sem, reduceIte, Nat.reduceEqDiff, Nat.reduceAdd, Nat.reduceMul, Nat.reduceSub, reduceCtorEq, Nat.reduceLeDiff, Nat.reduceLT, Int.reduceLT, Int.reduceLE, Int.reduceToNat, Int.reduceAdd, Int.reduceSub, Int.reduceNeg, Int.reduceMul, Int.reduceEq, ← Bool.decide_and, ← Bool.decide_or, ↓tq_n, ↓tq_e, ↓tq_r, ↓bq_n, ↓bq_e, ↓bq_r, ↓rq_n, ↓rq_r, ↓rq_e]
  refine AllocG.mk fun b1 hb1 => ?_
  simp only [F_dating_Dates, g_dating_Dates, go_sem, reduceIte, Nat.reduceEqDiff, Nat.reduceAdd, Nat.reduceMul, Nat.reduceSub, reduceCtorEq, Nat.reduceLeDiff, Nat.reduceLT, Int.reduceLT, Int.reduceLE, Int.reduceToNat, Int.reduceAdd, Int.reduceSub, Int.reduceNeg, Int.reduceMul, Int.reduceEq, ← Bool.decide_and, ← Bool.decide_or, ↓tq_n, ↓tq_e, ↓tq_r, ↓bq_n, ↓bq_e, ↓bq_r, ↓rq_n, ↓rq_r, ↓rq_e]
  refine CallG.mk (r_dating_Valid c _) ?_
  simp only [F_dating_Dates, g_dating_Dates, go_sem, reduceIte, Nat.reduceEqDiff, Nat.reduceAdd, Nat.reduceMul, Nat.reduceSub, reduceCtorEq, Nat.reduceLeDiff, Nat.reduceLT, Int.reduceLT, Int.reduceLE, Int.reduceToNat, Int.reduceAdd, Int.reduceSub, Int.reduceNeg, Int.reduceMul, Int.reduceEq, ← Bool.decide_and, ← Bool.decide_or, ↓tq_n, ↓tq_e, ↓tq_r, ↓bq_n, ↓bq_e, ↓bq_r, ↓rq_n, ↓rq_r, ↓rq_e]
  refine ⟨fun h1 => ?_, fun h1 => ?_⟩
  · refine ret_hb (by repeat' first | exact AH.le.refl _ | assumption | (refine AH.le_put ?_ (by first | assumption | exact (AH.blk_put_ne _ _ (by assumption)).trans (by assumption) | exact AH.none_put (by assumption) | exact AH.none_put (AH.none_put (by assumption)) | (simp only [AH.blk_setTok, AH.tok_put] at *; first | assumption | exact AH.none_put (by assumption)))) | (refine AH.le_setTok ?_ (by first | assumption | exact (AH.blk_put_ne _ _ (by assumption)).trans (by assumption) | exact AH.none_put (by assumption) | exact AH.none_put (AH.none_put (by assumption)) | (simp only [AH.blk_setTok, AH.tok_put] at *; first | assumption | exact AH.none_put (by assumption)))) | (refine AH.le_putM ?_ (by first | assumption | exact (AH.mp_putM_ne _ _ (by assumption)).trans (by assumption) | (simp only [AH.mp_put, AH.mp_setTok] at *; assumption)))) ?_
    rw [if_neg h1]
  rw [if_pos h1]
  refine CallG.mk (r_dating_solve c h1 _) ?_
  by_cases hok : Ok c
  case neg =>
    simp only [hok, if_false, decide_false]
    simp only [F_dating_Dates, g_dating_Dates, go_sem, reduceIte, Nat.reduceEqDiff, Nat.reduceAdd, Nat.reduceMul, Nat.reduceSub, reduceCtorEq, Nat.reduceLeDiff, Nat.reduceLT, Int.reduceLT, Int.reduceLE, Int.reduceToNat, Int.reduceAdd, Int.reduceSub, Int.reduceNeg, Int.reduceMul, Int.reduceEq, ← Bool.decide_and, ← Bool.decide_or, ↓tq_n, ↓tq_e, ↓tq_r, ↓bq_n, ↓bq_e, ↓bq_r, ↓rq_n, ↓rq_r, ↓rq_e]
    refine ret_hb (by repeat' first | exact AH.le.refl _ | assumption | (refine AH.le_put ?_ (by first | assumption | exact (AH.blk_put_ne _ _ (by assumption)).trans (by assumption) | exact AH.none_put (by assumption) | exact AH.none_put (AH.none_put (by assumption)) | (simp only [AH.blk_setTok, AH.tok_put] at *; first | assumption | exact AH.none_put (by assumption)))) | (refine AH.le_setTok ?_ (by first | assumption | exact (AH.blk_put_ne _ _ (by assumption)).trans (by assumption) | exact AH.none_put (by assumption) | exact AH.none_put (AH.none_put (by assumption)) | (simp only [AH.blk_setTok, AH.tok_put] at *; first | assumption | exact AH.none_put (by assumption)))) | (refine AH.le_putM ?_ (by first | assumption | exact (AH.mp_putM_ne _ _ (by assumption)).trans (by assumption) | (simp only [AH.mp_put, AH.mp_setTok] at *; assumption)))) ?_
    rw [if_neg hok]
  simp only [hok, if_true, decide_true, matV]
  simp only [F_dating_Dates, g_dating_Dates, go_sem, reduceIte, Nat.reduceEqDiff, Nat.reduceAdd, Nat.reduceMul, Nat.reduceSub, reduceCtorEq, Nat.reduceLeDiff, Nat.reduceLT, Int.reduceLT, Int.reduceLE, Int.reduceToNat, Int.reduceAdd, Int.reduceSub, Int.reduceNeg, Int.reduceMul, Int.reduceEq, ← Bool.decide_and, ← Bool.decide_or, ↓tq_n, ↓tq_e, ↓tq_r, ↓bq_n, ↓bq_e, ↓bq_r, ↓rq_n, ↓rq_r, ↓rq_e]
  generalize hH : h'.put b1 [AV.sl c.nlT c.ty.length (prs c.ty) c.tlT, AV.sl c.nlH c.ho.length (hds c.ho) c.tlH, AV.sl c.nlG c.ga.length (trs c.ga) c.tlG] = H
  have Hb : H.blk b1 = some [AV.sl c.nlT c.ty.length (prs c.ty) c.tlT, AV.sl c.nlH c.ho.length (hds c.ho) c.tlH, AV.sl c.nlG c.ga.length (trs c.ga) c.tlG] := by rw [← hH, AH.blk_put]
  have Hle : h'.le H := by rw [← hH]; exact (by repeat' first | exact AH.le.refl _ | assumption | (refine AH.le_put ?_ (by first | assumption | exact (AH.blk_put_ne _ _ (by assumption)).trans (by assumption) | exact AH.none_put (by assumption) | exact AH.none_put (AH.none_put (by assumption)) | (simp only [AH.blk_setTok, AH.tok_put] at *; first | assumption | exact AH.none_put (by assumption)))) | (refine AH.le_setTok ?_ (by first | assumption | exact (AH.blk_put_ne _ _ (by assumption)).trans (by assumption) | exact AH.none_put (by assumption) | exact AH.none_put (AH.none_put (by assumption)) | (simp only [AH.blk_setTok, AH.tok_put] at *; first | assumption | exact AH.none_put (by assumption)))) | (refine AH.le_putM ?_ (by first | assumption | exact (AH.mp_putM_ne _ _ (by assumption)).trans (by assumption) | (simp only [AH.mp_put, AH.mp_setTok] at *; assumption))))
  clear hH
  have hn15 := vc_nV h1
  generalize hn : nV c = n at *
  have hnT : n = 1 + (c.ty.length + c.ho.length) := by rw [← hn]; unfold nV; omega
  have hcell : ∀ a, a < n → ((List.range n).map fun i => AV.sl false n (i64s (rowL n (Mf c) i)) .unk).drop a = AV.sl false n (i64s (rowL n (Mf c) a)) .unk :: ((List.range n).map fun i => AV.sl false n (i64s (rowL n (Mf c) i)) .unk).drop (a + 1) := fun a ha => drop_of_get (by simp [ha])
  generalize ((List.range n).map fun i => AV.sl false n (i64s (rowL n (Mf c) i)) .unk) = ML at *
  obtain ⟨rest, hML⟩ : ∃ rest, ML = AV.sl false n (i64s (rowL n (Mf c) 0)) .unk :: rest := ⟨ML.drop 1, by have := hcell 0 (by omega); rwa [List.drop_zero] at this⟩
  subst hML
  refine awp_tok 7 2 (nl := true) (n := 0) (cs := []) rfl fun t ht => ?_
  refine awp_loop (fun i : Nat => [(1, .ptr b1 0), (5, .sl false n (AV.sl false n (i64s (rowL n (Mf c) 0)) .unk :: rest) .unk), (7, gsl (zA c i) (.tok t)), (8, I ((1 + i : Nat) : Int))]) (fun i => H.setTok t (zA c i).length 2) (fun i => 1 + i ≤ n) (fun i => n - i) 0 (by omega) (GStep.forget (by repeat' first | exact EnvLe.nil _ | refine EnvLe.cons (AV.le.of_eq rfl) ?_ | refine EnvLe.cons (AV.le.undef _) ?_ | refine EnvLe.cons AV.le.unk ?_) (by repeat' first | exact AH.le.refl _ | assumption | (refine AH.le_put ?_ (by first | assumption | exact (AH.blk_put_ne _ _ (by assumption)).trans (by assumption) | exact AH.none_put (by assumption) | exact AH.none_put (AH.none_put (by assumption)) | (simp only [AH.blk_setTok, AH.tok_put] at *; first | assumption | exact AH.none_put (by assumption)))) | (refine AH.le_setTok ?_ (by first | assumption | exact (AH.blk_put_ne _ _ (by assumption)).trans (by assumption) | exact AH.none_put (by assumption) | exact AH.none_put (AH.none_put (by assumption)) | (simp only [AH.blk_setTok, AH.tok_put] at *; first | assumption | exact AH.none_put (by assumption)))) | (refine AH.le_putM ?_ (by first | assumption | exact (AH.mp_putM_ne _ _ (by assumption)).trans (by assumption) | (simp only [AH.mp_put, AH.mp_setTok] at *; assumption))))) fun i h2 => .of_vg hm ?_
  by_cases h3 : 1 + i < n
  · have hc3 : ((1 + i : Nat) : Int) < (n : Int) := by omega
    have hz := zv_rng h1 hok (i := i) (by rw [hn]; exact h3)
    unfold zv at hz
    simp only at hz
    have i1 : InR .i64 (-Mf c (1 + i) 0) := by rw [inR64]; omega
    obtain ⟨r2, d1⟩ : ∃ r2, i64s (rowL n (Mf c) (1 + i)) = I (Mf c (1 + i) 0) :: r2 := ⟨(i64s (rowL n (Mf c) (1 + i))).drop 1, by have := MInv.rowd (n := n) (Mf c) (1 + i) (j := 0) (by omega); rwa [List.drop_zero] at this⟩
    have d2 := MInv.rowd (n := n) (Mf c) 0 h3
    have d4 := hcell (1 + i) h3
    rw [d1] at d4
    have c0 : (0 : Int) < (n : Int) := by omega
    simp only [hc3, d2, d4, c0, i1, gsl, F_dating_Dates, g_dating_Dates, go_sem, reduceIte, Nat.reduceEqDiff, Nat.reduceAdd, Nat.reduceMul, Nat.reduceSub, reduceCtorEq, Nat.reduceLeDiff, Nat.reduceLT, Int.reduceLT, Int.reduceLE, Int.reduceToNat, Int.reduceAdd, Int.reduceSub, Int.reduceNeg, Int.reduceMul, Int.reduceEq, ← Bool.decide_and, ← Bool.decide_or, ↓tq_n, ↓tq_e, ↓tq_r, ↓bq_n, ↓bq_e, ↓bq_r, ↓rq_n, ↓rq_r, ↓rq_e]
    refine ⟨prs_len _, by rw [zA_len]; omega, by rw [zA_len]; omega, by rw [inR64]; omega, i + 1, by omega, by omega, ?_⟩
    rw [zA_add]
    have e1 : ((1 + (i + 1) : Nat) : Int) = ((1 + i : Nat) : Int) + 1 := by omega
    rw [e1]
    simp only [gsl, List.length_append, List.length_cons, List.length_nil, prs_append, prs_one, Nat.zero_add, Nat.succ_ne_zero, decide_false, Bool.and_false]
    exact (GStep.forget (by repeat' first | exact EnvLe.nil _ | refine EnvLe.cons (AV.le.of_eq rfl) ?_ | refine EnvLe.cons (AV.le.undef _) ?_ | refine EnvLe.cons AV.le.unk ?_) (by repeat' first | exact AH.le.refl _ | assumption | (refine AH.le_put ?_ (by first | assumption | exact (AH.blk_put_ne _ _ (by assumption)).trans (by assumption) | exact AH.none_put (by assumption) | exact AH.none_put (AH.none_put (by assumption)) | (simp only [AH.blk_setTok, AH.tok_put] at *; first | assumption | exact AH.none_put (by assumption)))) | (refine AH.le_setTok ?_ (by first | assumption | exact (AH.blk_put_ne _ _ (by assumption)).trans (by assumption) | exact AH.none_put (by assumption) | exact AH.none_put (AH.none_put (by assumption)) | (simp only [AH.blk_setTok, AH.tok_put] at *; first | assumption | exact AH.none_put (by assumption)))) | (refine AH.le_putM ?_ (by first | assumption | exact (AH.mp_putM_ne _ _ (by assumption)).trans (by assumption) | (simp only [AH.mp_put, AH.mp_setTok] at *; assumption)))))
  have h3 : 1 + i = n := by omega
  have h4 : i = c.ty.length + c.ho.length := by omega
  subst h4
  have hc0 : ¬ ((1 + (c.ty.length + c.ho.length) : Nat) : Int) < (n : Int) := by omega
  have hc1 : (c.ty.length : Int) ≤ ((c.ty.length + c.ho.length : Nat) : Int) := by omega
  have k1 : ∀ H, RCall Try.prog n_slices_Clone_Years [.sl (decide (c.ty.length + c.ho.length = 0)) c.ty.length (prs (zT c)) .unk] H (.sl (decide (c.ty.length + c.ho.length = 0)) c.ty.length (prs (zT c)) .unk) := fun H => by
    have := r_slices_Clone_Years (decide (c.ty.length + c.ho.length = 0)) (zT c) .unk (fun hh => List.eq_nil_of_length_eq_zero (by rw [zT_len]; have := of_decide_eq_true hh; omega)) (by rw [zT_len]; omega) H
    rwa [zT_len] at this
  have k2 : ∀ H, RCall Try.prog n_slices_Clone_Years [.sl (decide (c.ty.length + c.ho.length = 0)) c.ho.length (prs (zH c)) .unk] H (.sl (decide (c.ty.length + c.ho.length = 0)) c.ho.length (prs (zH c)) .unk) := fun H => by
    have := r_slices_Clone_Years (decide (c.ty.length + c.ho.length = 0)) (zH c) .unk (fun hh => List.eq_nil_of_length_eq_zero (by rw [zH_len]; have := of_decide_eq_true hh; omega)) (by rw [zH_len]; omega) H
    rwa [zH_len] at this
  simp only [hc0, Hb, gsl, zA_len, hc1, F_dating_Dates, g_dating_Dates, go_sem, reduceIte, Nat.reduceEqDiff, Nat.reduceAdd, Nat.reduceMul, Nat.reduceSub, reduceCtorEq, Nat.reduceLeDiff, Nat.reduceLT, Int.reduceLT, Int.reduceLE, Int.reduceToNat, Int.reduceAdd, Int.reduceSub, Int.reduceNeg, Int.reduceMul, Int.reduceEq, ← Bool.decide_and, ← Bool.decide_or, ↓tq_n, ↓tq_e, ↓tq_r, ↓bq_n, ↓bq_e, ↓bq_r, ↓rq_n, ↓rq_r, ↓rq_e]
  refine ⟨by omega, by omega, ?_⟩
  rw [Nat.sub_zero, prs_take, zA_take _ _ _ (by omega)]
  refine CallG.mk (k1 _) ?_
  simp only [zA_len, hc1, F_dating_Dates, g_dating_Dates, go_sem, reduceIte, Nat.reduceEqDiff, Nat.reduceAdd, Nat.reduceMul, Nat.reduceSub, reduceCtorEq, Nat.reduceLeDiff, Nat.reduceLT, Int.reduceLT, Int.reduceLE, Int.reduceToNat, Int.reduceAdd, Int.reduceSub, Int.reduceNeg, Int.reduceMul, Int.reduceEq, ← Bool.decide_and, ← Bool.decide_or, ↓tq_n, ↓tq_e, ↓tq_r, ↓bq_n, ↓bq_e, ↓bq_r, ↓rq_n, ↓rq_r, ↓rq_e]
  refine ⟨by omega, ?_⟩
  rw [Nat.add_sub_cancel_left, prs_dropn, zA_drop, List.take_of_length_le (by rw [prs_len, zH_len]; omega)]
  refine CallG.mk (k2 _) ?_
  simp only [F_dating_Dates, g_dating_Dates, go_sem, reduceIte, Nat.reduceEqDiff, Nat.reduceAdd, Nat.reduceMul, Nat.reduceSub, reduceCtorEq, Nat.reduceLeDiff, Nat.reduceLT, Int.reduceLT, Int.reduceLE, Int.reduceToNat, Int.reduceAdd, Int.reduceSub, Int.reduceNeg, Int.reduceMul, Int.reduceEq, ← Bool.decide_and, ← Bool.decide_or, ↓tq_n, ↓tq_e, ↓tq_r, ↓bq_n, ↓bq_e, ↓bq_r, ↓rq_n, ↓rq_r, ↓rq_e]
  refine ret_hb (AH.le.trans Hle (by repeat' first | exact AH.le.refl _ | assumption | (refine AH.le_put ?_ (by first | assumption | exact (AH.blk_put_ne _ _ (by assumption)).trans (by assumption) | exact AH.none_put (by assumption) | exact AH.none_put (AH.none_put (by assumption)) | (simp only [AH.blk_setTok, AH.tok_put] at *; first | assumption | exact AH.none_put (by assumption)))) | (refine AH.le_setTok ?_ (by first | assumption | exact (AH.blk_put_ne _ _ (by assumption)).trans (by assumption) | exact AH.none_put (by assumption) | exact AH.none_put (AH.none_put (by assumption)) | (simp only [AH.blk_setTok, AH.tok_put] at *; first | assumption | exact AH.none_put (by assumption)))) | (refine AH.le_putM ?_ (by first | assumption | exact (AH.mp_putM_ne _ _ (by assumption)).trans (by assumption) | (simp only [AH.mp_put, AH.mp_setTok] at *; assumption))))) ?_
  rw [if_pos hok]
end Go.Proofs.Ytnekkkjedmlloaa
namespace Go.Proofs.Ytnekkkjedmlloaa
open Go Go.Abs
set_option linter.unusedSimpArgs false
set_option linter.unusedVariables false
set_option maxRecDepth 20000

theorem asl_gl (l : List Int) {n : Nat} (hn : n = l.length) : asl l = gl (i64s l) n .unk := by
  subst hn
  cases l <;> rfl
theorem take_getD {α : Type} (d : α) {l : List α} {i : Nat} (h : i < l.length) : l.take (i + 1) = l.take i ++ [l.getD i d] := by
  rw [List.take_add_one]
  simp [h]
theorem take_map_succ {α β : Type} (f : α → β) (d : α) {l : List α} {i : Nat} (h : i < l.length) : (l.take (i + 1)).map f = (l.take i).map f ++ [f (l.getD i d)] := by
  rw [take_getD d h, List.map_append]
  rfl

theorem AH.le_setTok2 {h h' : AH} {t n size : Nat} (hl : h.le h') : (h.setTok t n size).le (h'.setTok t n size) :=
  ⟨hl.blk, fun x m e => by
    simp only [AH.setTok] at e ⊢
    split at e
    · rename_i hx; rw [if_pos hx]; exact e
    · rename_i hx; rw [if_neg hx]; exact hl.tok x m e, hl.mp⟩

def pickE (last : Bool) (p : Int × Int) : Int := if last then p.2 else p.1
theorem r_dating_ends_1 (last : Bool) (nl : Bool) (e : List (Int × Int)) (tl : Tail) (hl1 : e.length ≤ 1000) (h : AH) :
    RCall Try.prog n_dating_ends_1 [.sl nl e.length (prs e) tl, .sptr [.bool last]] h (asl (e.map (pickE last))) := by
  refine RCall.of hm cF_dating_ends_1 (by simp [g_dating_ends_1]) fun hw h' hl => ?_
  simp only [F_dating_ends_1, g_dating_ends_1, go_sem, reduceIte, Nat.reduceEqDiff, Nat.reduceAdd, Nat.reduceMul, Nat.reduceSub, reduceCtorEq, Nat.reduceLeDiff, Nat.reduceLT, Int.reduceLT, Int.reduceLE, Int.reduceToNat, Int.reduceAdd, Int.reduceSub, Int.reduceNeg, Int.reduceMul, Int.reduceEq, ← Bool.decide_and, ← Bool.decide_or, ↓tq_n, ↓tq_e, ↓tq_r, ↓bq_n, ↓bq_e, ↓bq_r, ↓rq_n, ↓rq_r, ↓rq_e]
  refine awp_tok 4 1 (nl := true) (n := 0) (cs := []) rfl fun t ht => ?_
  refine awp_loop (fun i : Nat => [(1, .sptr [.bool last]), (4, gl (i64s ((e.take i).map (pickE last))) i (.tok t)), (7, .sl nl e.length (prs e) tl), (8, I e.length), (9, I i)]) (fun i => h'.setTok t i 1) (fun i => i ≤ e.length) (fun i => e.length - i) 0 (Nat.zero_le _) (GStep.forget (by repeat' first | exact EnvLe.nil _ | refine EnvLe.cons (AV.le.of_eq rfl) ?_ | refine EnvLe.cons (AV.le.undef _) ?_ | refine EnvLe.cons AV.le.unk ?_) (by repeat' first | exact AH.le.refl _ | assumption | (refine AH.le_put ?_ (by first | assumption | exact (AH.blk_put_ne _ _ (by assumption)).trans (by assumption) | exact AH.none_put (by assumption) | exact AH.none_put (AH.none_put (by assumption)) | (simp only [AH.blk_setTok, AH.tok_put] at *; first | assumption | exact AH.none_put (by assumption)))) | (refine AH.le_setTok ?_ (by first | assumption | exact (AH.blk_put_ne _ _ (by assumption)).trans (by assumption) | exact AH.none_put (by assumption) | exact AH.none_put (AH.none_put (by assumption)) | (simp only [AH.blk_setTok, AH.tok_put] at *; first | assumption | exact AH.none_put (by assumption)))) | (refine AH.le_putM ?_ (by first | assumption | exact (AH.mp_putM_ne _ _ (by assumption)).trans (by assumption) | (simp only [AH.mp_put, AH.mp_setTok] at *; assumption))))) fun i hi => .of_vg hm ?_
  have hlen : ((e.take i).map (pickE last)).length = i := by simp; omega
  by_cases h3 : i < e.length
  · have hc3 : (i : Int) < (e.length : Int) := by omega
    have e1 := take_map_succ (pickE last) (0, 0) h3
    simp only [hc3, prs_drop h3, F_dating_ends_1, g_dating_ends_1, go_sem, reduceIte, Nat.reduceEqDiff, Nat.reduceAdd, Nat.reduceMul, Nat.reduceSub, reduceCtorEq, Nat.reduceLeDiff, Nat.reduceLT, Int.reduceLT, Int.reduceLE, Int.reduceToNat, Int.reduceAdd, Int.reduceSub, Int.reduceNeg, Int.reduceMul, Int.reduceEq, ← Bool.decide_and, ← Bool.decide_or, ↓tq_n, ↓tq_e, ↓tq_r, ↓bq_n, ↓bq_e, ↓bq_r, ↓rq_n, ↓rq_r, ↓rq_e]
    cases last
    all_goals
      simp only [F_dating_ends_1, g_dating_ends_1, go_sem, reduceIte, Nat.reduceEqDiff, Nat.reduceAdd, Nat.reduceMul, Nat.reduceSub, reduceCtorEq, Nat.reduceLeDiff, Nat.reduceLT, Int.reduceLT, Int.reduceLE, Int.reduceToNat, Int.reduceAdd, Int.reduceSub, Int.reduceNeg, Int.reduceMul, Int.reduceEq, ← Bool.decide_and, ← Bool.decide_or, ↓tq_n, ↓tq_e, ↓tq_r, ↓bq_n, ↓bq_e, ↓bq_r, ↓rq_n, ↓rq_r, ↓rq_e]
      refine ⟨by rw [i64s_len, hlen], by omega, by omega, by rw [inR64]; omega, i + 1, by omega, by omega, ?_⟩
      rw [e1, i64s_append]
      exact (GStep.forget (by repeat' first | exact EnvLe.nil _ | refine EnvLe.cons (AV.le.of_eq rfl) ?_ | refine EnvLe.cons (AV.le.undef _) ?_ | refine EnvLe.cons AV.le.unk ?_) (by repeat' first | exact AH.le.refl _ | assumption | (refine AH.le_put ?_ (by first | assumption | exact (AH.blk_put_ne _ _ (by assumption)).trans (by assumption) | exact AH.none_put (by assumption) | exact AH.none_put (AH.none_put (by assumption)) | (simp only [AH.blk_setTok, AH.tok_put] at *; first | assumption | exact AH.none_put (by assumption)))) | (refine AH.le_setTok ?_ (by first | assumption | exact (AH.blk_put_ne _ _ (by assumption)).trans (by assumption) | exact AH.none_put (by assumption) | exact AH.none_put (AH.none_put (by assumption)) | (simp only [AH.blk_setTok, AH.tok_put] at *; first | assumption | exact AH.none_put (by assumption)))) | (refine AH.le_putM ?_ (by first | assumption | exact (AH.mp_putM_ne _ _ (by assumption)).trans (by assumption) | (simp only [AH.mp_put, AH.mp_setTok] at *; assumption)))))
  · have h3 : i = e.length := by omega
    subst h3
    simp only [F_dating_ends_1, g_dating_ends_1, go_sem, reduceIte, Nat.reduceEqDiff, Nat.reduceAdd, Nat.reduceMul, Nat.reduceSub, reduceCtorEq, Nat.reduceLeDiff, Nat.reduceLT, Int.reduceLT, Int.reduceLE, Int.reduceToNat, Int.reduceAdd, Int.reduceSub, Int.reduceNeg, Int.reduceMul, Int.reduceEq, ← Bool.decide_and, ← Bool.decide_or, ↓tq_n, ↓tq_e, ↓tq_r, ↓bq_n, ↓bq_e, ↓bq_r, ↓rq_n, ↓rq_r, ↓rq_e]
    rw [asl_gl _ (n := e.length) (by simp), show e.take e.length = e from List.take_length]
    exact ret_gl (by repeat' first | exact AH.le.refl _ | assumption | (refine AH.le_put ?_ (by first | assumption | exact (AH.blk_put_ne _ _ (by assumption)).trans (by assumption) | exact AH.none_put (by assumption) | exact AH.none_put (AH.none_put (by assumption)) | (simp only [AH.blk_setTok, AH.tok_put] at *; first | assumption | exact AH.none_put (by assumption)))) | (refine AH.le_setTok ?_ (by first | assumption | exact (AH.blk_put_ne _ _ (by assumption)).trans (by assumption) | exact AH.none_put (by assumption) | exact AH.none_put (AH.none_put (by assumption)) | (simp only [AH.blk_setTok, AH.tok_put] at *; first | assumption | exact AH.none_put (by assumption)))) | (refine AH.le_putM ?_ (by first | assumption | exact (AH.mp_putM_ne _ _ (by assumption)).trans (by assumption) | (simp only [AH.mp_put, AH.mp_setTok] at *; assumption))))

/-- The answers of Some and Last. -/
def nilS : AV := .sl true 0 [] .full
def loc (c : Cr) (last : Bool) : List Int := if last then hiT c else loT c
def hoc (c : Cr) (last : Bool) : List Int := if last then hiH c else loH c
def endsV (c : Cr) (last : Bool) : AV := if VC c then (if Ok c then .tup [asl (loc c last), asl (hoc c last), I 0] else .tup [.sl true 0 [] .full, .sl true 0 [] .full, I 10]) else .tup [.sl true 0 [] .full, .sl true 0 [] .full, I 1]
theorem zT_pick (c : Cr) (last : Bool) : (zT c).map (pickE last) = loc c last := by
  unfold zT zA loc loT hiT
  cases last
  · simp only [List.map_map]; rfl
  · simp only [List.map_map]; rfl
theorem zH_pick (c : Cr) (last : Bool) : (zH c).map (pickE last) = hoc c last := by
  unfold zH hoc loH hiH
  cases last
  · simp only [List.map_map]
    refine List.map_congr_left fun i _ => ?_
    simp [pickE, zv, Nat.add_assoc]
  · simp only [List.map_map]
    refine List.map_congr_left fun i _ => ?_
    simp [pickE, zv, Nat.add_assoc]

theorem r_dating_ends (c : Cr) (last : Bool) (h : AH) : RCall Try.prog n_dating_ends [.st c.cs, .bool last] h (endsV c last) := by
  refine RCall.of hm cF_dating_ends (by simp [g_dating_ends]) fun hw h' hl => ?_
  simp only [Cr.cs, F_dating_ends, g_dating_ends, go_sem, reduceIte, Nat.reduceEqDiff, Nat.reduceAdd, Nat.reduceMul, Nat.reduceSub, reduceCtorEq, Nat.reduceLeDiff, Nat.reduceLT, Int.reduceLT, Int.reduceLE, Int.reduceToNat, Int.reduceAdd, Int.reduceSub, Int.reduceNeg, Int.reduceMul, Int.reduceEq, ← Bool.decide_and, ← Bool.decide_or, ↓tq_n, ↓tq_e, ↓tq_r, ↓bq_n, ↓bq_e, ↓bq_r, ↓rq_n, ↓rq_r, ↓rq_e]
  refine CallG.mk (r_dating_Dates c _) ?_
  unfold datesV endsV
  by_cases h1 : VC c
  case neg =>
    simp only [h1, if_false]
    simp only [F_dating_ends, g_dating_ends, go_sem, reduceIte, Nat.reduceEqDiff, Nat.reduceAdd, Nat.reduceMul, Nat.reduceSub, reduceCtorEq, Nat.reduceLeDiff, Nat.reduceLT, Int.reduceLT, Int.reduceLE, Int.reduceToNat, Int.reduceAdd, Int.reduceSub, Int.reduceNeg, Int.reduceMul, Int.reduceEq, ← Bool.decide_and, ← Bool.decide_or, ↓tq_n, ↓tq_e, ↓tq_r, ↓bq_n, ↓bq_e, ↓bq_r, ↓rq_n, ↓rq_r, ↓rq_e]
    exact ret_ok (by simp [h1, endsV, *])
  by_cases h2 : Ok c
  case neg =>
    simp only [h1, h2, if_false, if_true]
    simp only [F_dating_ends, g_dating_ends, go_sem, reduceIte, Nat.reduceEqDiff, Nat.reduceAdd, Nat.reduceMul, Nat.reduceSub, reduceCtorEq, Nat.reduceLeDiff, Nat.reduceLT, Int.reduceLT, Int.reduceLE, Int.reduceToNat, Int.reduceAdd, Int.reduceSub, Int.reduceNeg, Int.reduceMul, Int.reduceEq, ← Bool.decide_and, ← Bool.decide_or, ↓tq_n, ↓tq_e, ↓tq_r, ↓bq_n, ↓bq_e, ↓bq_r, ↓rq_n, ↓rq_r, ↓rq_e]
    exact ret_ok (by simp [h1, endsV, *])
  simp only [h1, h2, if_true]
  simp only [F_dating_ends, g_dating_ends, go_sem, reduceIte, Nat.reduceEqDiff, Nat.reduceAdd, Nat.reduceMul, Nat.reduceSub, reduceCtorEq, Nat.reduceLeDiff, Nat.reduceLT, Int.reduceLT, Int.reduceLE, Int.reduceToNat, Int.reduceAdd, Int.reduceSub, Int.reduceNeg, Int.reduceMul, Int.reduceEq, ← Bool.decide_and, ← Bool.decide_or, ↓tq_n, ↓tq_e, ↓tq_r, ↓bq_n, ↓bq_e, ↓bq_r, ↓rq_n, ↓rq_r, ↓rq_e]
  have b8 := h1.1
  refine CallG.mk (v := asl (loc c last)) (by rw [← zT_pick, ← zT_len c]; exact r_dating_ends_1 last _ (zT c) _ (by rw [zT_len]; omega) _) ?_
  simp only [F_dating_ends, g_dating_ends, go_sem, reduceIte, Nat.reduceEqDiff, Nat.reduceAdd, Nat.reduceMul, Nat.reduceSub, reduceCtorEq, Nat.reduceLeDiff, Nat.reduceLT, Int.reduceLT, Int.reduceLE, Int.reduceToNat, Int.reduceAdd, Int.reduceSub, Int.reduceNeg, Int.reduceMul, Int.reduceEq, ← Bool.decide_and, ← Bool.decide_or, ↓tq_n, ↓tq_e, ↓tq_r, ↓bq_n, ↓bq_e, ↓bq_r, ↓rq_n, ↓rq_r, ↓rq_e]
  refine CallG.mk (v := asl (hoc c last)) (by rw [← zH_pick, ← zH_len c]; exact r_dating_ends_1 last _ (zH c) _ (by rw [zH_len]; omega) _) ?_
  simp only [F_dating_ends, g_dating_ends, go_sem, reduceIte, Nat.reduceEqDiff, Nat.reduceAdd, Nat.reduceMul, Nat.reduceSub, reduceCtorEq, Nat.reduceLeDiff, Nat.reduceLT, Int.reduceLT, Int.reduceLE, Int.reduceToNat, Int.reduceAdd, Int.reduceSub, Int.reduceNeg, Int.reduceMul, Int.reduceEq, ← Bool.decide_and, ← Bool.decide_or, ↓tq_n, ↓tq_e, ↓tq_r, ↓bq_n, ↓bq_e, ↓bq_r, ↓rq_n, ↓rq_r, ↓rq_e]
  exact ret_ok (by simp [h1, endsV, *])
theorem r_dating_Some (c : Cr) (h : AH) : RCall Try.prog n_dating_Some [.st c.cs] h (endsV c false) := by
  refine RCall.of hm cF_dating_Some (by simp [g_dating_Some]) fun hw h' hl => ?_
  simp only [Cr.cs, F_dating_Some, g_dating_Some, go_sem, reduceIte, Nat.reduceEqDiff, Nat.reduceAdd, Nat.reduceMul, Nat.reduceSub, reduceCtorEq, Nat.reduceLeDiff, Nat.reduceLT, Int.reduceLT, Int.reduceLE, Int.reduceToNat, Int.reduceAdd, Int.reduceSub, Int.reduceNeg, Int.reduceMul, Int.reduceEq, ← Bool.decide_and, ← Bool.decide_or, ↓tq_n, ↓tq_e, ↓tq_r, ↓bq_n, ↓bq_e, ↓bq_r, ↓rq_n, ↓rq_r, ↓rq_e]
  refine CallG.mk (r_dating_ends c false _) ?_
  unfold endsV
  by_cases h1 : VC c
  · by_cases h2 : Ok c
    all_goals
      simp only [h1, h2, if_false, if_true]
      simp only [F_dating_Some, g_dating_Some, go_sem, reduceIte, Nat.reduceEqDiff, Nat.reduceAdd, Nat.reduceMul, Nat.reduceSub, reduceCtorEq, Nat.reduceLeDiff, Nat.reduceLT, Int.reduceLT, Int.reduceLE, Int.reduceToNat, Int.reduceAdd, Int.reduceSub, Int.reduceNeg, Int.reduceMul, Int.reduceEq, ← Bool.decide_and, ← Bool.decide_or, ↓tq_n, ↓tq_e, ↓tq_r, ↓bq_n, ↓bq_e, ↓bq_r, ↓rq_n, ↓rq_r, ↓rq_e]
      exact ret_ok (by simp [h1, endsV, *])
  · simp only [h1, if_false]
    simp only [F_dating_Some, g_dating_Some, go_sem, reduceIte, Nat.reduceEqDiff, Nat.reduceAdd, Nat.reduceMul, Nat.reduceSub, reduceCtorEq, Nat.reduceLeDiff, Nat.reduceLT, Int.reduceLT, Int.reduceLE, Int.reduceToNat, Int.reduceAdd, Int.reduceSub, Int.reduceNeg, Int.reduceMul, Int.reduceEq, ← Bool.decide_and, ← Bool.decide_or, ↓tq_n, ↓tq_e, ↓tq_r, ↓bq_n, ↓bq_e, ↓bq_r, ↓rq_n, ↓rq_r, ↓rq_e]
    exact ret_ok (by simp [h1, endsV, *])
theorem hoc_len (c : Cr) (last : Bool) : (hoc c last).length = c.ho.length := by cases last <;> simp [hoc, loH, hiH]
theorem loc_len (c : Cr) (last : Bool) : (loc c last).length = c.ty.length := by cases last <;> simp [loc, loT, hiT]
/-- The answers of Terminus. -/
def termV (c : Cr) (k : Int) : AV := if VC c then (if 0 ≤ k ∧ k < c.ho.length then (if Ok c then .tup [I ((hoc c false).getD k.toNat 0), I 0] else .tup [I 0, I 10]) else .tup [I 0, I 7]) else .tup [I 0, I 1]

/-- The answers of Dates, of the reference. -/
def rdatesV (c : Cr) : AV := if VC c then (if Ok c then .tup [gl (prs (zT c)) c.ty.length .unk, gl (prs (zH c)) c.ho.length .unk, I 0] else .tup [.sl true 0 [] .full, .sl true 0 [] .full, I 10]) else .tup [.sl true 0 [] .full, .sl true 0 [] .full, I 1]
theorem zT_at (c : Cr) {i : Nat} (h : i < c.ty.length) : (zT c).getD i (0, 0) = ((loc c false).getD i 0, (loc c true).getD i 0) := by
  simp [zT, zA, loc, loT, hiT, List.getD, h, zv]
theorem zH_at (c : Cr) {i : Nat} (h : i < c.ho.length) : (zH c).getD i (0, 0) = ((hoc c false).getD i 0, (hoc c true).getD i 0) := by
  simp [zH, hoc, loH, hiH, List.getD, h, zv, Nat.add_assoc]
end Go.Proofs.Ytnekkkjedmlloaa
namespace Go.Proofs.Ytnekkkjedmlloaa
open Go Go.Abs
set_option linter.unusedSimpArgs false
set_option linter.unusedVariables false
set_option maxRecDepth 20000

/-- Types 1, 2, .. with these years. -/
def tE (zs : List Int) : List (Int × Int) := (List.range zs.length).map fun i => (((i + 1 : Nat) : Int), zs.getD i 0)
theorem tE_len (zs : List Int) : (tE zs).length = zs.length := by simp [tE]
theorem tE_get {zs : List Int} {i : Nat} (h : i < zs.length) : (tE zs).getD i (0, 0) = (((i + 1 : Nat) : Int), zs.getD i 0) := by
  unfold tE
  simp only [List.getD_eq_getElem?_getD, List.getElem?_map, List.getElem?_range h, Option.map_some, Option.getD_some]
theorem tE_ls {zs : List Int} (h8 : zs.length ≤ 8) (hz : ∀ i, i < zs.length → -9999 ≤ zs.getD i 0 ∧ zs.getD i 0 ≤ 9999) : Ls (-9999) 9999 (tE zs) := by
  intro i hi
  rw [tE_len] at hi
  unfold eOK
  rw [tE_get hi]
  have := hz i hi
  refine ⟨by simp only; omega, by simp only; omega, fun h0 => ?_⟩
  rw [tE_get (by omega)]
  simp only; omega
theorem tE_val {zs : List Int} {k : Int} : val (tE zs) k = if 1 ≤ k ∧ k ≤ zs.length then some (zs.getD (k - 1).toNat 0) else none := by
  by_cases hk : 1 ≤ k ∧ k ≤ zs.length
  · rw [if_pos hk]
    have h1 : (k - 1).toNat < zs.length := by omega
    have e : idx (tE zs) k = ((k - 1).toNat : Nat) := idx_at (by rw [tE_len]; exact h1) (by rw [tE_get h1]; simp only; omega) (fun j hj => by rw [tE_get (by omega)]; simp only; omega)
    unfold val
    rw [if_pos (by omega), e, Int.toNat_natCast, tE_get h1]
  · rw [if_neg hk]
    unfold val
    rw [if_neg (fun hh => by
      obtain ⟨a1, a2, _⟩ := idx_spec hh
      rw [tE_len] at a1
      rw [tE_get a1] at a2
      simp only at a2
      omega)]

theorem lat_all {t coins : List (Int × Int)} : ∀ {i : Nat}, i ≤ coins.length → (∀ j, j < i → ∃ y, val t (coins.getD j (0, 0)).1 = some y) → ∃ s, lat t coins i = some s := by
  intro i
  induction i with
  | zero => intro _ _; exact ⟨_, rfl⟩
  | succ i ih =>
    intro hi h
    obtain ⟨s, hs⟩ := ih (by omega) fun j hj => h j (by omega)
    obtain ⟨y, hy⟩ := h i (by omega)
    exact ⟨_, lat_step hs hy⟩
theorem yl_all {l : List Hd} {t : List (Int × Int)} : ∀ {n : Nat}, (∀ i, i < n → ∃ s, latE (l.getD i dH) t = some s) → ∃ zs, yl l t n = some zs := by
  intro n
  induction n with
  | zero => intro _; exact ⟨_, rfl⟩
  | succ n ih =>
    intro h
    obtain ⟨zs, hz⟩ := ih fun i hi => h i (by omega)
    obtain ⟨s, hs⟩ := h n (by omega)
    exact ⟨_, yl_step hz hs⟩

theorem dates_main {c : Cr} {l : List Hd} {zs : List Int} (h8 : zs.length ≤ 8) (l6 : l.length ≤ 6) (hz : ∀ i, i < zs.length → -9999 ≤ zs.getD i 0 ∧ zs.getD i 0 ≤ 9999)
    (c1 : c.ty = zs.map fun y => (y, y)) (c2 : c.ho = l) (c3 : c.ga = []) : (yq l (tE zs) = 7 → ¬ VC c) ∧ (yq l (tE zs) = 0 → VC c ∧ (Ok c ↔ Agr l (tE zs))) := by
  have hls := tE_ls h8 hz
  have lty : c.ty.length = zs.length := by rw [c1]; simp
  have gty : ∀ i, i < zs.length → c.ty.getD i (0, 0) = (zs.getD i 0, zs.getD i 0) := fun i hi => by rw [c1]; simp [List.getD, hi]
  refine ⟨fun h7 hv => ?_, fun h0 => ?_⟩
  · -- every hoard's types are known
    have hc : chk l = 0 := by
      unfold yq at h7
      split at h7
      · rename_i hh
        unfold chk at h7
        split at h7
        · cases h7
        · split at h7 <;> cases h7
      · rename_i hh; exact Classical.byContradiction hh
    obtain ⟨ws, hw⟩ := yl_all (l := l) (t := tE zs) (n := l.length) fun i hi => by
      have hh := hv.2.2.1 i (by rw [c2]; exact hi)
      rw [c2] at hh
      refine lat_all (Nat.le_refl _) fun j hj => ?_
      have k1 := hh.2 j hj
      have k2 := (hh.1.2.2.1 j hj).1
      rw [lty] at k1
      exact ⟨_, by rw [tE_val, if_pos ⟨k2.1, k1⟩]⟩
    unfold yq at h7
    rw [if_neg (by simp [hc]), if_pos hls, hw] at h7
    cases h7
  · obtain ⟨y1, hc0, _, hyl⟩ := ys_len h0
    obtain ⟨l8, hvl⟩ := chk_vls hc0
    have hget := yl_get hyl
    have hlat : ∀ i, i < l.length → ∃ s, latE (l.getD i dH) (tE zs) = some s ∧ (ys l (tE zs)).getD i 0 = s.2 ∧ (∀ j, j < (l.getD i dH).coins.length → ∃ y, val (tE zs) ((l.getD i dH).coins.getD j (0, 0)).1 = some y ∧ y ≤ s.2) ∧ ∃ j, j < (l.getD i dH).coins.length ∧ val (tE zs) ((l.getD i dH).coins.getD j (0, 0)).1 = some s.2 := fun i hi => by
      obtain ⟨s, s1, s2⟩ := hget i hi
      have hv := (hvl i hi).1
      have hc : ∀ j, j < (l.getD i dH).coins.length → ((l.getD i dH).coins.getD j (0, 0)).1 ≠ 0 := fun j hj => by have := (hv.2.2.1 j hj).1; omega
      obtain ⟨a1, a2⟩ := lat_some hc (Nat.le_refl _) s1
      obtain ⟨b1, b2, j, b3, b4⟩ := a2 (by have := hv.2.1; omega)
      exact ⟨s, s1, s2, a1, j, b3, by rw [← b4]; exact b2⟩
    have hkey : ∀ i, i < l.length → ∀ j, j < (l.getD i dH).coins.length → 1 ≤ ((l.getD i dH).coins.getD j (0, 0)).1 ∧ ((l.getD i dH).coins.getD j (0, 0)).1 ≤ zs.length := fun i hi j hj => by
      obtain ⟨s, _, _, a1, _⟩ := hlat i hi
      obtain ⟨y, hy, _⟩ := a1 j hj
      rw [tE_val] at hy
      split at hy
      · assumption
      · cases hy
    have vc : VC c := by
      refine ⟨⟨by rw [lty]; exact h8, by rw [c2]; exact l6, by rw [c3]; simp⟩, fun i hi => ?_, fun i hi => ?_, fun i hi => ?_⟩
      · rw [lty] at hi
        rw [gty i hi]
        have := hz i hi
        unfold Yv; simp only; omega
      · rw [c2] at hi ⊢
        exact ⟨(hvl i hi).1, fun j hj => by rw [lty]; exact (hkey i hi j hj).2⟩
      · rw [c3] at hi; simp at hi
    refine ⟨vc, ?_⟩
    rw [ok_iff vc]
    constructor
    · rintro ⟨t, h, hd⟩ i hi
      obtain ⟨s, s1, s2, a1, j, b3, b4⟩ := hlat i hi
      have d5 := hd.2.2.2.2.1 i (by rw [c2]; exact hi)
      rw [c2] at d5
      have k1 := hkey i hi j b3
      have d6 := d5.2 j b3
      rw [tE_val, if_pos k1] at b4
      have d4 := hd.2.2.2.1 (((l.getD i dH).coins.getD j (0, 0)).1 - 1).toNat (by rw [lty]; omega)
      rw [gty _ (by omega)] at d4
      have b5 := Option.some.inj b4
      simp only at d4
      rw [s2]
      omega
    · intro ha
      refine ⟨zs, (List.range l.length).map fun i => max (l.getD i dH).cl.1 ((ys l (tE zs)).getD i 0), vc, lty.symm, by rw [c2]; simp, fun i hi => ?_, fun i hi => ?_, fun i hi => ?_⟩
      · rw [lty] at hi
        rw [gty i hi]
        exact ⟨Int.le_refl _, Int.le_refl _⟩
      · rw [c2] at hi ⊢
        obtain ⟨s, s1, s2, a1, j, b3, b4⟩ := hlat i hi
        have hg := ha i hi
        have hy := (hvl i hi).1.2.2.2
        unfold Yv at hy
        rw [getD_rmap _ hi]
        refine ⟨by omega, fun j hj => ?_⟩
        obtain ⟨y, e1, e2⟩ := a1 j hj
        rw [tE_val, if_pos (hkey i hi j hj)] at e1
        have := Option.some.inj e1
        omega
      · rw [c3] at hi; simp at hi
end Go.Proofs.Ytnekkkjedmlloaa
namespace Go.Proofs.Ytnekkkjedmlloaa
open Go Go.Abs
set_option linter.unusedSimpArgs false
set_option linter.unusedVariables false
set_option maxRecDepth 20000

theorem tok_ne {h : AH} {t u n m : Nat} (hne : u ≠ t) : (h.setTok t n m).tok u = h.tok u := if_neg hne
theorem setTok4 {h : AH} {t u : Nat} (hne : t ≠ u) (a b a' b' m k : Nat) : (((h.setTok t a m).setTok u b k).setTok t a' m).setTok u b' k = (h.setTok t a' m).setTok u b' k := by
  simp only [AH.setTok, AH.mk.injEq, true_and, and_true]
  funext x
  by_cases h1 : x = u
  · simp [h1]
  · by_cases h2 : x = t
    · simp [h2, hne]
    · simp [h1, h2]
/-- A year within the limits. -/
def clp (y : Int) : Int := max (-9999) (min y 9999)
def zsF (f : List Int) : List Int := f.map clp
theorem zsF_get {f : List Int} {i : Nat} (h : i < f.length) : (zsF f).getD i 0 = clp (f.getD i 0) := by simp [zsF, List.getD, h]
/-- The first i of the years as ranges, and as entries. -/
def yyk (zs : List Int) (i : Nat) : List (Int × Int) := (List.range i).map fun j => (zs.getD j 0, zs.getD j 0)
def tEk (zs : List Int) (i : Nat) : List (Int × Int) := (List.range i).map fun j => (((j + 1 : Nat) : Int), zs.getD j 0)
theorem yyk_succ (zs : List Int) (i : Nat) : prs (yyk zs (i + 1)) = prs (yyk zs i) ++ [I (zs.getD i 0), I (zs.getD i 0)] := by
  unfold yyk; rw [List.range_succ, List.map_append, prs_append]; rfl
theorem tEk_succ (zs : List Int) (i : Nat) : prs (tEk zs (i + 1)) = prs (tEk zs i) ++ [I ((i + 1 : Nat) : Int), I (zs.getD i 0)] := by
  unfold tEk; rw [List.range_succ, List.map_append, prs_append]; rfl
theorem yyk_len (zs : List Int) (i : Nat) : (yyk zs i).length = i := by simp [yyk]
theorem tEk_len (zs : List Int) (i : Nat) : (tEk zs i).length = i := by simp [tEk]
theorem yyk_all (zs : List Int) : yyk zs zs.length = zs.map fun y => (y, y) := by
  refine List.ext_getElem (by simp [yyk]) fun i h1 h2 => ?_
  have hi : i < zs.length := by simpa using h2
  simp [yyk, List.getD, hi]

theorem r_law_BurialDates (n1 : Bool) (l : List Hd) (u1 : Tail) (n2 : Bool) (f : List Int) (u2 : Tail) (h : AH) : RCall Try.prog n_law_BurialDates [.sl n1 l.length (hds l) u1, .sl n2 f.length (i64s f) u2] h (.bool true) := by
  refine RCall.of hm cF_law_BurialDates (by simp [g_law_BurialDates]) fun hw h' hl => ?_
  simp only [F_law_BurialDates, g_law_BurialDates, go_sem, reduceIte, Nat.reduceEqDiff, Nat.reduceAdd, Nat.reduceMul, Nat.reduceSub, reduceCtorEq, Nat.reduceLeDiff, Nat.reduceLT, Int.reduceLT, Int.reduceLE, Int.reduceToNat, Int.reduceAdd, Int.reduceSub, Int.reduceNeg, Int.reduceMul, Int.reduceEq, ← Bool.decide_and, ← Bool.decide_or, ↓tq_n, ↓tq_e, ↓tq_r, ↓bq_n, ↓bq_e, ↓bq_r, ↓rq_n, ↓rq_r, ↓rq_e]
  refine CallG.mk (r_law_awake _) ?_
  simp only [F_law_BurialDates, g_law_BurialDates, go_sem, reduceIte, Nat.reduceEqDiff, Nat.reduceAdd, Nat.reduceMul, Nat.reduceSub, reduceCtorEq, Nat.reduceLeDiff, Nat.reduceLT, Int.reduceLT, Int.reduceLE, Int.reduceToNat, Int.reduceAdd, Int.reduceSub, Int.reduceNeg, Int.reduceMul, Int.reduceEq, ← Bool.decide_and, ← Bool.decide_or, ↓tq_n, ↓tq_e, ↓tq_r, ↓bq_n, ↓bq_e, ↓bq_r, ↓rq_n, ↓rq_r, ↓rq_e]
  refine CallG.mk (r_law_few n1 l u1 _) ?_
  by_cases k1 : FwL l
  case neg =>
    rw [decide_eq_false k1]
    simp only [F_law_BurialDates, g_law_BurialDates, go_sem, reduceIte, Nat.reduceEqDiff, Nat.reduceAdd, Nat.reduceMul, Nat.reduceSub, reduceCtorEq, Nat.reduceLeDiff, Nat.reduceLT, Int.reduceLT, Int.reduceLE, Int.reduceToNat, Int.reduceAdd, Int.reduceSub, Int.reduceNeg, Int.reduceMul, Int.reduceEq, ← Bool.decide_and, ← Bool.decide_or, ↓tq_n, ↓tq_e, ↓tq_r, ↓bq_n, ↓bq_e, ↓bq_r, ↓rq_n, ↓rq_r, ↓rq_e]
    refine CallG.mk (r_law_awake _) ?_
    simp only [F_law_BurialDates, g_law_BurialDates, go_sem, reduceIte, Nat.reduceEqDiff, Nat.reduceAdd, Nat.reduceMul, Nat.reduceSub, reduceCtorEq, Nat.reduceLeDiff, Nat.reduceLT, Int.reduceLT, Int.reduceLE, Int.reduceToNat, Int.reduceAdd, Int.reduceSub, Int.reduceNeg, Int.reduceMul, Int.reduceEq, ← Bool.decide_and, ← Bool.decide_or, ↓tq_n, ↓tq_e, ↓tq_r, ↓bq_n, ↓bq_e, ↓bq_r, ↓rq_n, ↓rq_r, ↓rq_e]
    exact ret_ok rfl
  rw [decide_eq_true k1]
  by_cases k2 : (6 : Int) < (l.length : Int)
  · simp only [k2, F_law_BurialDates, g_law_BurialDates, go_sem, reduceIte, Nat.reduceEqDiff, Nat.reduceAdd, Nat.reduceMul, Nat.reduceSub, reduceCtorEq, Nat.reduceLeDiff, Nat.reduceLT, Int.reduceLT, Int.reduceLE, Int.reduceToNat, Int.reduceAdd, Int.reduceSub, Int.reduceNeg, Int.reduceMul, Int.reduceEq, ← Bool.decide_and, ← Bool.decide_or, ↓tq_n, ↓tq_e, ↓tq_r, ↓bq_n, ↓bq_e, ↓bq_r, ↓rq_n, ↓rq_r, ↓rq_e]
    refine CallG.mk (r_law_awake _) ?_
    simp only [F_law_BurialDates, g_law_BurialDates, go_sem, reduceIte, Nat.reduceEqDiff, Nat.reduceAdd, Nat.reduceMul, Nat.reduceSub, reduceCtorEq, Nat.reduceLeDiff, Nat.reduceLT, Int.reduceLT, Int.reduceLE, Int.reduceToNat, Int.reduceAdd, Int.reduceSub, Int.reduceNeg, Int.reduceMul, Int.reduceEq, ← Bool.decide_and, ← Bool.decide_or, ↓tq_n, ↓tq_e, ↓tq_r, ↓bq_n, ↓bq_e, ↓bq_r, ↓rq_n, ↓rq_r, ↓rq_e]
    exact ret_ok rfl
  by_cases k3 : (8 : Int) < (f.length : Int)
  · simp only [k2, k3, F_law_BurialDates, g_law_BurialDates, go_sem, reduceIte, Nat.reduceEqDiff, Nat.reduceAdd, Nat.reduceMul, Nat.reduceSub, reduceCtorEq, Nat.reduceLeDiff, Nat.reduceLT, Int.reduceLT, Int.reduceLE, Int.reduceToNat, Int.reduceAdd, Int.reduceSub, Int.reduceNeg, Int.reduceMul, Int.reduceEq, ← Bool.decide_and, ← Bool.decide_or, ↓tq_n, ↓tq_e, ↓tq_r, ↓bq_n, ↓bq_e, ↓bq_r, ↓rq_n, ↓rq_r, ↓rq_e]
    refine CallG.mk (r_law_awake _) ?_
    simp only [F_law_BurialDates, g_law_BurialDates, go_sem, reduceIte, Nat.reduceEqDiff, Nat.reduceAdd, Nat.reduceMul, Nat.reduceSub, reduceCtorEq, Nat.reduceLeDiff, Nat.reduceLT, Int.reduceLT, Int.reduceLE, Int.reduceToNat, Int.reduceAdd, Int.reduceSub, Int.reduceNeg, Int.reduceMul, Int.reduceEq, ← Bool.decide_and, ← Bool.decide_or, ↓tq_n, ↓tq_e, ↓tq_r, ↓bq_n, ↓bq_e, ↓bq_r, ↓rq_n, ↓rq_r, ↓rq_e]
    exact ret_ok rfl
  simp only [k2, k3, F_law_BurialDates, g_law_BurialDates, go_sem, reduceIte, Nat.reduceEqDiff, Nat.reduceAdd, Nat.reduceMul, Nat.reduceSub, reduceCtorEq, Nat.reduceLeDiff, Nat.reduceLT, Int.reduceLT, Int.reduceLE, Int.reduceToNat, Int.reduceAdd, Int.reduceSub, Int.reduceNeg, Int.reduceMul, Int.reduceEq, ← Bool.decide_and, ← Bool.decide_or, ↓tq_n, ↓tq_e, ↓tq_r, ↓bq_n, ↓bq_e, ↓bq_r, ↓rq_n, ↓rq_r, ↓rq_e]
  obtain ⟨zs, hzs⟩ : ∃ zs, zs = zsF f := ⟨_, rfl⟩
  have hzl : zs.length = f.length := by rw [hzs]; simp [zsF]
  have hzg : ∀ i, i < f.length → zs.getD i 0 = max (-9999) (min (f.getD i 0) 9999) := fun i hi => by rw [hzs, zsF_get hi]; rfl
  refine AllocG.mk fun b5 hb5 => ?_
  simp only [F_law_BurialDates, g_law_BurialDates, go_sem, reduceIte, Nat.reduceEqDiff, Nat.reduceAdd, Nat.reduceMul, Nat.reduceSub, reduceCtorEq, Nat.reduceLeDiff, Nat.reduceLT, Int.reduceLT, Int.reduceLE, Int.reduceToNat, Int.reduceAdd, Int.reduceSub, Int.reduceNeg, Int.reduceMul, Int.reduceEq, ← Bool.decide_and, ← Bool.decide_or, ↓tq_n, ↓tq_e, ↓tq_r, ↓bq_n, ↓bq_e, ↓bq_r, ↓rq_n, ↓rq_r, ↓rq_e]
  refine awp_tokB b5 0 2 (nl := true) (n := 0) (cs := []) (AH.blk_put _ _ _) rfl fun t ht => ?_
  refine awp_tok 6 2 (nl := true) (n := 0) (cs := []) rfl fun u hu => ?_
  have ht0 : h'.tok t = none := ht
  have htu : t ≠ u := fun hh => by subst hh; rw [AH.tok_setTok] at hu; cases hu
  have hut : u ≠ t := fun hh => htu hh.symm
  have hu0 : h'.tok u = none := by
    rw [tok_ne hut] at hu
    exact hu
  refine awp_loop (fun i : Nat => [(0, .sl n1 l.length (hds l) u1), (1, .sl n2 f.length (i64s f) u2), (5, .ptr b5 0), (6, gl (prs (tEk zs i)) i (.tok u)), (7, I i)]) (fun i => ((h'.setTok t i 2).setTok u i 2).put b5 [gl (prs (yyk zs i)) i (.tok t), .sl true 0 [] .full, .sl true 0 [] .full]) (fun i => i ≤ f.length) (fun i => f.length - i) 0 (Nat.zero_le _) (by simp only [AH.put_put, AH.put_setTok, List.set_cons_zero]; exact (GStep.forget (by repeat' first | exact EnvLe.nil _ | refine EnvLe.cons (AV.le.of_eq rfl) ?_ | refine EnvLe.cons (AV.le.undef _) ?_ | refine EnvLe.cons AV.le.unk ?_) (by repeat' first | exact AH.le.refl _ | assumption | (refine AH.le_put ?_ (by first | assumption | exact (AH.blk_put_ne _ _ (by assumption)).trans (by assumption) | exact AH.none_put (by assumption) | exact AH.none_put (AH.none_put (by assumption)) | (simp only [AH.blk_setTok, AH.tok_put] at *; first | assumption | exact AH.none_put (by assumption)))) | (refine AH.le_setTok ?_ (by first | assumption | exact (AH.blk_put_ne _ _ (by assumption)).trans (by assumption) | exact AH.none_put (by assumption) | exact AH.none_put (AH.none_put (by assumption)) | (simp only [AH.blk_setTok, AH.tok_put] at *; first | assumption | exact AH.none_put (by assumption)))) | (refine AH.le_putM ?_ (by first | assumption | exact (AH.mp_putM_ne _ _ (by assumption)).trans (by assumption) | (simp only [AH.mp_put, AH.mp_setTok] at *; assumption)))))) fun i hi => .of_vg hm ?_
  by_cases h3 : i < f.length
  · have hc : (i : Int) < (f.length : Int) := by omega
    have l1 : (prs (yyk zs i)).length = i * 2 := by rw [prs_len, yyk_len]
    have l2 : (prs (tEk zs i)).length = i * 2 := by rw [prs_len, tEk_len]
    simp only [hc, i64s_drop h3, F_law_BurialDates, g_law_BurialDates, go_sem, reduceIte, Nat.reduceEqDiff, Nat.reduceAdd, Nat.reduceMul, Nat.reduceSub, reduceCtorEq, Nat.reduceLeDiff, Nat.reduceLT, Int.reduceLT, Int.reduceLE, Int.reduceToNat, Int.reduceAdd, Int.reduceSub, Int.reduceNeg, Int.reduceMul, Int.reduceEq, ← Bool.decide_and, ← Bool.decide_or, ↓tq_n, ↓tq_e, ↓tq_r, ↓bq_n, ↓bq_e, ↓bq_r, ↓rq_n, ↓rq_r, ↓rq_e]
    refine CallG.mk (r_base_Clip _ _ _ _) ?_
    rw [← hzg i h3]
    simp only [l1, l2, tok_ne htu, tok_ne hut, F_law_BurialDates, g_law_BurialDates, go_sem, reduceIte, Nat.reduceEqDiff, Nat.reduceAdd, Nat.reduceMul, Nat.reduceSub, reduceCtorEq, Nat.reduceLeDiff, Nat.reduceLT, Int.reduceLT, Int.reduceLE, Int.reduceToNat, Int.reduceAdd, Int.reduceSub, Int.reduceNeg, Int.reduceMul, Int.reduceEq, ← Bool.decide_and, ← Bool.decide_or, ↓tq_n, ↓tq_e, ↓tq_r, ↓bq_n, ↓bq_e, ↓bq_r, ↓rq_n, ↓rq_r, ↓rq_e]
    refine ⟨by omega, by omega, by rw [inR64]; omega, by omega, by omega, by rw [inR64]; omega, i + 1, by omega, by omega, ?_⟩
    rw [setTok4 htu, yyk_succ, tEk_succ]
    exact (GStep.forget (by repeat' first | exact EnvLe.nil _ | refine EnvLe.cons (AV.le.of_eq rfl) ?_ | refine EnvLe.cons (AV.le.undef _) ?_ | refine EnvLe.cons AV.le.unk ?_) (by repeat' first | exact AH.le.refl _ | assumption | (refine AH.le_put ?_ (by first | assumption | exact (AH.blk_put_ne _ _ (by assumption)).trans (by assumption) | exact AH.none_put (by assumption) | exact AH.none_put (AH.none_put (by assumption)) | (simp only [AH.blk_setTok, AH.tok_put] at *; first | assumption | exact AH.none_put (by assumption)))) | (refine AH.le_setTok ?_ (by first | assumption | exact (AH.blk_put_ne _ _ (by assumption)).trans (by assumption) | exact AH.none_put (by assumption) | exact AH.none_put (AH.none_put (by assumption)) | (simp only [AH.blk_setTok, AH.tok_put] at *; first | assumption | exact AH.none_put (by assumption)))) | (refine AH.le_putM ?_ (by first | assumption | exact (AH.mp_putM_ne _ _ (by assumption)).trans (by assumption) | (simp only [AH.mp_put, AH.mp_setTok] at *; assumption)))))
  have h3 : i = f.length := by omega
  subst h3
  simp only [F_law_BurialDates, g_law_BurialDates, go_sem, reduceIte, Nat.reduceEqDiff, Nat.reduceAdd, Nat.reduceMul, Nat.reduceSub, reduceCtorEq, Nat.reduceLeDiff, Nat.reduceLT, Int.reduceLT, Int.reduceLE, Int.reduceToNat, Int.reduceAdd, Int.reduceSub, Int.reduceNeg, Int.reduceMul, Int.reduceEq, ← Bool.decide_and, ← Bool.decide_or, ↓tq_n, ↓tq_e, ↓tq_r, ↓bq_n, ↓bq_e, ↓bq_r, ↓rq_n, ↓rq_r, ↓rq_e]
  rw [← hzl]
  have hz : ∀ i, i < zs.length → -9999 ≤ zs.getD i 0 ∧ zs.getD i 0 ≤ 9999 := fun i hi => by rw [hzg i (by omega)]; omega
  have g1 : gl (prs (tEk zs zs.length)) zs.length (.tok u) = .sl (decide (zs.length = 0)) (tE zs).length (prs (tE zs)) (.tok u) := by rw [tE_len]; rfl
  rw [g1]
  refine CallG.mk (r_burial_Agrees n1 l u1 _ (tE zs) _ _) ?_
  rw [agreesV_eq]
  simp only [F_law_BurialDates, g_law_BurialDates, go_sem, reduceIte, Nat.reduceEqDiff, Nat.reduceAdd, Nat.reduceMul, Nat.reduceSub, reduceCtorEq, Nat.reduceLeDiff, Nat.reduceLT, Int.reduceLT, Int.reduceLE, Int.reduceToNat, Int.reduceAdd, Int.reduceSub, Int.reduceNeg, Int.reduceMul, Int.reduceEq, ← Bool.decide_and, ← Bool.decide_or, ↓tq_n, ↓tq_e, ↓tq_r, ↓bq_n, ↓bq_e, ↓bq_r, ↓rq_n, ↓rq_r, ↓rq_e]
  obtain ⟨c, hc⟩ : ∃ c : Cr, c = ⟨decide (zs.length = 0), yyk zs zs.length, .tok t, n1, l, u1, true, [], .full⟩ := ⟨_, rfl⟩
  have hcs : c.cs = [gl (prs (yyk zs zs.length)) zs.length (.tok t), .sl n1 l.length (hds l) u1, .sl true 0 [] .full] := by
    rw [hc]; simp only [Cr.cs, yyk_len]; rfl
  rw [← hcs]
  obtain ⟨d1, d2⟩ := dates_main (c := c) (l := l) (zs := zs) (by omega) (by omega) hz (by rw [hc]; exact yyk_all zs) (by rw [hc]) (by rw [hc])
  refine CallG.mk (r_dating_Some c _) ?_
  unfold endsV
  by_cases q0 : yq l (tE zs) = 0
  · obtain ⟨v1, v2⟩ := d2 q0
    rw [if_pos v1]
    have hag : agB l (tE zs) = decide (Ok c) := by
      unfold agB; rw [if_pos q0]; exact decide_eq_decide.2 v2.symm
    rw [hag, q0]
    by_cases ho : Ok c
    · rw [if_pos ho, decide_eq_true ho]
      simp only [asl, F_law_BurialDates, g_law_BurialDates, go_sem, reduceIte, Nat.reduceEqDiff, Nat.reduceAdd, Nat.reduceMul, Nat.reduceSub, reduceCtorEq, Nat.reduceLeDiff, Nat.reduceLT, Int.reduceLT, Int.reduceLE, Int.reduceToNat, Int.reduceAdd, Int.reduceSub, Int.reduceNeg, Int.reduceMul, Int.reduceEq, ← Bool.decide_and, ← Bool.decide_or, ↓tq_n, ↓tq_e, ↓tq_r, ↓bq_n, ↓bq_e, ↓bq_r, ↓rq_n, ↓rq_r, ↓rq_e]
      exact ret_hb (by repeat' first | exact AH.le.refl _ | assumption | (refine AH.le_put ?_ (by first | assumption | exact (AH.blk_put_ne _ _ (by assumption)).trans (by assumption) | exact AH.none_put (by assumption) | exact AH.none_put (AH.none_put (by assumption)) | (simp only [AH.blk_setTok, AH.tok_put] at *; first | assumption | exact AH.none_put (by assumption)))) | (refine AH.le_setTok ?_ (by first | assumption | exact (AH.blk_put_ne _ _ (by assumption)).trans (by assumption) | exact AH.none_put (by assumption) | exact AH.none_put (AH.none_put (by assumption)) | (simp only [AH.blk_setTok, AH.tok_put] at *; first | assumption | exact AH.none_put (by assumption)))) | (refine AH.le_putM ?_ (by first | assumption | exact (AH.mp_putM_ne _ _ (by assumption)).trans (by assumption) | (simp only [AH.mp_put, AH.mp_setTok] at *; assumption)))) rfl
    · rw [if_neg ho, decide_eq_false ho]
      simp only [asl, F_law_BurialDates, g_law_BurialDates, go_sem, reduceIte, Nat.reduceEqDiff, Nat.reduceAdd, Nat.reduceMul, Nat.reduceSub, reduceCtorEq, Nat.reduceLeDiff, Nat.reduceLT, Int.reduceLT, Int.reduceLE, Int.reduceToNat, Int.reduceAdd, Int.reduceSub, Int.reduceNeg, Int.reduceMul, Int.reduceEq, ← Bool.decide_and, ← Bool.decide_or, ↓tq_n, ↓tq_e, ↓tq_r, ↓bq_n, ↓bq_e, ↓bq_r, ↓rq_n, ↓rq_r, ↓rq_e]
      exact ret_hb (by repeat' first | exact AH.le.refl _ | assumption | (refine AH.le_put ?_ (by first | assumption | exact (AH.blk_put_ne _ _ (by assumption)).trans (by assumption) | exact AH.none_put (by assumption) | exact AH.none_put (AH.none_put (by assumption)) | (simp only [AH.blk_setTok, AH.tok_put] at *; first | assumption | exact AH.none_put (by assumption)))) | (refine AH.le_setTok ?_ (by first | assumption | exact (AH.blk_put_ne _ _ (by assumption)).trans (by assumption) | exact AH.none_put (by assumption) | exact AH.none_put (AH.none_put (by assumption)) | (simp only [AH.blk_setTok, AH.tok_put] at *; first | assumption | exact AH.none_put (by assumption)))) | (refine AH.le_putM ?_ (by first | assumption | exact (AH.mp_putM_ne _ _ (by assumption)).trans (by assumption) | (simp only [AH.mp_put, AH.mp_setTok] at *; assumption)))) rfl
  · by_cases q7 : yq l (tE zs) = 7
    · rw [if_neg (d1 q7), q7]
      simp only [F_law_BurialDates, g_law_BurialDates, go_sem, reduceIte, Nat.reduceEqDiff, Nat.reduceAdd, Nat.reduceMul, Nat.reduceSub, reduceCtorEq, Nat.reduceLeDiff, Nat.reduceLT, Int.reduceLT, Int.reduceLE, Int.reduceToNat, Int.reduceAdd, Int.reduceSub, Int.reduceNeg, Int.reduceMul, Int.reduceEq, ← Bool.decide_and, ← Bool.decide_or, ↓tq_n, ↓tq_e, ↓tq_r, ↓bq_n, ↓bq_e, ↓bq_r, ↓rq_n, ↓rq_r, ↓rq_e]
      exact ret_hb (by repeat' first | exact AH.le.refl _ | assumption | (refine AH.le_put ?_ (by first | assumption | exact (AH.blk_put_ne _ _ (by assumption)).trans (by assumption) | exact AH.none_put (by assumption) | exact AH.none_put (AH.none_put (by assumption)) | (simp only [AH.blk_setTok, AH.tok_put] at *; first | assumption | exact AH.none_put (by assumption)))) | (refine AH.le_setTok ?_ (by first | assumption | exact (AH.blk_put_ne _ _ (by assumption)).trans (by assumption) | exact AH.none_put (by assumption) | exact AH.none_put (AH.none_put (by assumption)) | (simp only [AH.blk_setTok, AH.tok_put] at *; first | assumption | exact AH.none_put (by assumption)))) | (refine AH.le_putM ?_ (by first | assumption | exact (AH.mp_putM_ne _ _ (by assumption)).trans (by assumption) | (simp only [AH.mp_put, AH.mp_setTok] at *; assumption)))) rfl
    · by_cases v1 : VC c
      · rw [if_pos v1]
        by_cases ho : Ok c
        · rw [if_pos ho]
          simp only [asl, q0, q7, F_law_BurialDates, g_law_BurialDates, go_sem, reduceIte, Nat.reduceEqDiff, Nat.reduceAdd, Nat.reduceMul, Nat.reduceSub, reduceCtorEq, Nat.reduceLeDiff, Nat.reduceLT, Int.reduceLT, Int.reduceLE, Int.reduceToNat, Int.reduceAdd, Int.reduceSub, Int.reduceNeg, Int.reduceMul, Int.reduceEq, ← Bool.decide_and, ← Bool.decide_or, ↓tq_n, ↓tq_e, ↓tq_r, ↓bq_n, ↓bq_e, ↓bq_r, ↓rq_n, ↓rq_r, ↓rq_e]
          exact ret_hb (by repeat' first | exact AH.le.refl _ | assumption | (refine AH.le_put ?_ (by first | assumption | exact (AH.blk_put_ne _ _ (by assumption)).trans (by assumption) | exact AH.none_put (by assumption) | exact AH.none_put (AH.none_put (by assumption)) | (simp only [AH.blk_setTok, AH.tok_put] at *; first | assumption | exact AH.none_put (by assumption)))) | (refine AH.le_setTok ?_ (by first | assumption | exact (AH.blk_put_ne _ _ (by assumption)).trans (by assumption) | exact AH.none_put (by assumption) | exact AH.none_put (AH.none_put (by assumption)) | (simp only [AH.blk_setTok, AH.tok_put] at *; first | assumption | exact AH.none_put (by assumption)))) | (refine AH.le_putM ?_ (by first | assumption | exact (AH.mp_putM_ne _ _ (by assumption)).trans (by assumption) | (simp only [AH.mp_put, AH.mp_setTok] at *; assumption)))) rfl
        · rw [if_neg ho]
          simp only [asl, q0, q7, F_law_BurialDates, g_law_BurialDates, go_sem, reduceIte, Nat.reduceEqDiff, Nat.reduceAdd, Nat.reduceMul, Nat.reduceSub, reduceCtorEq, Nat.reduceLeDiff, Nat.reduceLT, Int.reduceLT, Int.reduceLE, Int.reduceToNat, Int.reduceAdd, Int.reduceSub, Int.reduceNeg, Int.reduceMul, Int.reduceEq, ← Bool.decide_and, ← Bool.decide_or, ↓tq_n, ↓tq_e, ↓tq_r, ↓bq_n, ↓bq_e, ↓bq_r, ↓rq_n, ↓rq_r, ↓rq_e]
          exact ret_hb (by repeat' first | exact AH.le.refl _ | assumption | (refine AH.le_put ?_ (by first | assumption | exact (AH.blk_put_ne _ _ (by assumption)).trans (by assumption) | exact AH.none_put (by assumption) | exact AH.none_put (AH.none_put (by assumption)) | (simp only [AH.blk_setTok, AH.tok_put] at *; first | assumption | exact AH.none_put (by assumption)))) | (refine AH.le_setTok ?_ (by first | assumption | exact (AH.blk_put_ne _ _ (by assumption)).trans (by assumption) | exact AH.none_put (by assumption) | exact AH.none_put (AH.none_put (by assumption)) | (simp only [AH.blk_setTok, AH.tok_put] at *; first | assumption | exact AH.none_put (by assumption)))) | (refine AH.le_putM ?_ (by first | assumption | exact (AH.mp_putM_ne _ _ (by assumption)).trans (by assumption) | (simp only [AH.mp_put, AH.mp_setTok] at *; assumption)))) rfl
      · rw [if_neg v1]
        simp only [q0, q7, F_law_BurialDates, g_law_BurialDates, go_sem, reduceIte, Nat.reduceEqDiff, Nat.reduceAdd, Nat.reduceMul, Nat.reduceSub, reduceCtorEq, Nat.reduceLeDiff, Nat.reduceLT, Int.reduceLT, Int.reduceLE, Int.reduceToNat, Int.reduceAdd, Int.reduceSub, Int.reduceNeg, Int.reduceMul, Int.reduceEq, ← Bool.decide_and, ← Bool.decide_or, ↓tq_n, ↓tq_e, ↓tq_r, ↓bq_n, ↓bq_e, ↓bq_r, ↓rq_n, ↓rq_r, ↓rq_e]
        exact ret_hb (by repeat' first | exact AH.le.refl _ | assumption | (refine AH.le_put ?_ (by first | assumption | exact (AH.blk_put_ne _ _ (by assumption)).trans (by assumption) | exact AH.none_put (by assumption) | exact AH.none_put (AH.none_put (by assumption)) | (simp only [AH.blk_setTok, AH.tok_put] at *; first | assumption | exact AH.none_put (by assumption)))) | (refine AH.le_setTok ?_ (by first | assumption | exact (AH.blk_put_ne _ _ (by assumption)).trans (by assumption) | exact AH.none_put (by assumption) | exact AH.none_put (AH.none_put (by assumption)) | (simp only [AH.blk_setTok, AH.tok_put] at *; first | assumption | exact AH.none_put (by assumption)))) | (refine AH.le_putM ?_ (by first | assumption | exact (AH.mp_putM_ne _ _ (by assumption)).trans (by assumption) | (simp only [AH.mp_put, AH.mp_setTok] at *; assumption)))) rfl
end Go.Proofs.Ytnekkkjedmlloaa
