/- Calls of functions of this seat's program: the laws DatingTight and DatingCloses. No condition. -/
import Derived.Test.YtcicklmlbdfneaaD22
import Derived.Test.YtcicklmlbdfneaaC6
namespace Go.Proofs.Ytcicklmlbdfneaa
open Go Go.Abs
set_option linter.unusedSimpArgs false
set_option linter.unusedVariables false
set_option maxRecDepth 20000

theorem prs_set (l : List (Int × Int)) : ∀ (k : Nat) (p : Int × Int), k < l.length → spl (prs l) (k * 2) [I p.1, I p.2] = prs (l.set k p) := by
  induction l with
  | nil => intro k p h; simp at h
  | cons q l ih =>
    intro k p h
    cases k with
    | zero => rfl
    | succ k =>
      have := ih k p (by simpa using h)
      have e : prs (q :: l) = I q.1 :: I q.2 :: prs l := rfl
      have e2 : prs ((q :: l).set (k + 1) p) = I q.1 :: I q.2 :: prs (l.set k p) := rfl
      rw [e, e2, ← this, show (k + 1) * 2 = k * 2 + 1 + 1 by omega]
      simp only [spl, List.set_cons_succ]
theorem hds_set (l : List Hd) : ∀ (k : Nat) (y : Int × Int), k < l.length → spl (hds l) (k * 4 + 2) [I y.1, I y.2] = hds (l.set k { l.getD k dH with cl := y }) := by
  induction l with
  | nil => intro k p h; simp at h
  | cons q l ih =>
    intro k p h
    cases k with
    | zero => rfl
    | succ k =>
      have := ih k p (by simpa using h)
      have e : hds (q :: l) = I q.id :: .sl q.nl q.coins.length (prs q.coins) q.tl :: I q.cl.1 :: I q.cl.2 :: hds l := rfl
      have e2 : hds ((q :: l).set (k + 1) { (q :: l).getD (k + 1) dH with cl := p }) = I q.id :: .sl q.nl q.coins.length (prs q.coins) q.tl :: I q.cl.1 :: I q.cl.2 :: hds (l.set k { l.getD k dH with cl := p }) := rfl
      rw [e, e2, ← this, show (k + 1) * 4 + 2 = k * 4 + 2 + 1 + 1 + 1 + 1 by omega]
      simp only [spl, List.set_cons_succ]

theorem ends_fix {f : FuncId} {b : Bool} {c2 : Cr} {pre post : List AV} {bk n size : Nat} {cs : List AV} {h : AH} {cap : Option Nat} (hc : ∀ h, RCall Try.prog f [.st c2.cs] h (endsV c2 b)) (hb : h.blk bk = some cs)
    (he : c2.cs = pre ++ .sl false n (cs.take (n * size)) .unk :: post) : ACalls Try.prog f [.st (pre ++ .msl bk 0 n cap :: post)] h fun r h' => r = endsV c2 b ∧ h' = h.del bk := by
  refine ACalls.step (CStep.fixSt hb size) ?_
  rw [← he]
  exact hc _ _ (AH.leB.refl _)

set_option maxHeartbeats 2000000 in
theorem r_law_DatingTight (c : Cr) (k0 y0 : Int) (h : AH) : RCall Try.prog n_law_DatingTightB [.st c.cs, I k0, I y0] h (.bool true) := by
  refine RCall.of hm cF_law_DatingTightB (by simp [g_law_DatingTightB]) fun hw h' hl => ?_
  simp only [Cr.cs, F_law_DatingTightB, g_law_DatingTightB, go_sem, reduceIte, Nat.reduceEqDiff, Nat.reduceAdd, Nat.reduceMul, Nat.reduceSub, reduceCtorEq, Nat.reduceLeDiff, Nat.reduceLT, Int.reduceLT, Int.reduceLE, Int.reduceToNat, Int.reduceAdd, Int.reduceSub, Int.reduceNeg, Int.reduceMul, Int.reduceEq, ← Bool.decide_and, ← Bool.decide_or, ↓tq_n, ↓tq_e, ↓tq_r, ↓bq_n, ↓bq_e, ↓bq_r, ↓rq_n, ↓rq_r, ↓rq_e]
  refine CallG.mk (r_law_awake _) ?_
  simp only [F_law_DatingTightB, g_law_DatingTightB, go_sem, reduceIte, Nat.reduceEqDiff, Nat.reduceAdd, Nat.reduceMul, Nat.reduceSub, reduceCtorEq, Nat.reduceLeDiff, Nat.reduceLT, Int.reduceLT, Int.reduceLE, Int.reduceToNat, Int.reduceAdd, Int.reduceSub, Int.reduceNeg, Int.reduceMul, Int.reduceEq, ← Bool.decide_and, ← Bool.decide_or, ↓tq_n, ↓tq_e, ↓tq_r, ↓bq_n, ↓bq_e, ↓bq_r, ↓rq_n, ↓rq_r, ↓rq_e]
  refine CallG.mk (r_law_few c _) ?_
  simp only [F_law_DatingTightB, g_law_DatingTightB, go_sem, reduceIte, Nat.reduceEqDiff, Nat.reduceAdd, Nat.reduceMul, Nat.reduceSub, reduceCtorEq, Nat.reduceLeDiff, Nat.reduceLT, Int.reduceLT, Int.reduceLE, Int.reduceToNat, Int.reduceAdd, Int.reduceSub, Int.reduceNeg, Int.reduceMul, Int.reduceEq, ← Bool.decide_and, ← Bool.decide_or, ↓tq_n, ↓tq_e, ↓tq_r, ↓bq_n, ↓bq_e, ↓bq_r, ↓rq_n, ↓rq_r, ↓rq_e]
  refine ⟨fun h1 => CallG.mk (r_law_awake _) ?_, fun h1 => CallG.mk (r_ref_Valid c _) ?_⟩
  · simp only [F_law_DatingTightB, g_law_DatingTightB, go_sem, reduceIte, Nat.reduceEqDiff, Nat.reduceAdd, Nat.reduceMul, Nat.reduceSub, reduceCtorEq, Nat.reduceLeDiff, Nat.reduceLT, Int.reduceLT, Int.reduceLE, Int.reduceToNat, Int.reduceAdd, Int.reduceSub, Int.reduceNeg, Int.reduceMul, Int.reduceEq, ← Bool.decide_and, ← Bool.decide_or, ↓tq_n, ↓tq_e, ↓tq_r, ↓bq_n, ↓bq_e, ↓bq_r, ↓rq_n, ↓rq_r, ↓rq_e]; exact ret_ok rfl
  by_cases hv : VC c
  case neg =>
    simp only [decide_eq_false hv, F_law_DatingTightB, g_law_DatingTightB, go_sem, reduceIte, Nat.reduceEqDiff, Nat.reduceAdd, Nat.reduceMul, Nat.reduceSub, reduceCtorEq, Nat.reduceLeDiff, Nat.reduceLT, Int.reduceLT, Int.reduceLE, Int.reduceToNat, Int.reduceAdd, Int.reduceSub, Int.reduceNeg, Int.reduceMul, Int.reduceEq, ← Bool.decide_and, ← Bool.decide_or, ↓tq_n, ↓tq_e, ↓tq_r, ↓bq_n, ↓bq_e, ↓bq_r, ↓rq_n, ↓rq_r, ↓rq_e]
    refine CallG.mk (r_law_awake _) ?_
    simp only [F_law_DatingTightB, g_law_DatingTightB, go_sem, reduceIte, Nat.reduceEqDiff, Nat.reduceAdd, Nat.reduceMul, Nat.reduceSub, reduceCtorEq, Nat.reduceLeDiff, Nat.reduceLT, Int.reduceLT, Int.reduceLE, Int.reduceToNat, Int.reduceAdd, Int.reduceSub, Int.reduceNeg, Int.reduceMul, Int.reduceEq, ← Bool.decide_and, ← Bool.decide_or, ↓tq_n, ↓tq_e, ↓tq_r, ↓bq_n, ↓bq_e, ↓bq_r, ↓rq_n, ↓rq_r, ↓rq_e]
    exact ret_ok rfl
  obtain ⟨b8, b6, b16⟩ := hv.1
  by_cases hz : (c.ty.length : Int) = 0
  · simp only [decide_eq_true hv, hz, F_law_DatingTightB, g_law_DatingTightB, go_sem, reduceIte, Nat.reduceEqDiff, Nat.reduceAdd, Nat.reduceMul, Nat.reduceSub, reduceCtorEq, Nat.reduceLeDiff, Nat.reduceLT, Int.reduceLT, Int.reduceLE, Int.reduceToNat, Int.reduceAdd, Int.reduceSub, Int.reduceNeg, Int.reduceMul, Int.reduceEq, ← Bool.decide_and, ← Bool.decide_or, ↓tq_n, ↓tq_e, ↓tq_r, ↓bq_n, ↓bq_e, ↓bq_r, ↓rq_n, ↓rq_r, ↓rq_e]
    refine CallG.mk (r_law_awake _) ?_
    simp only [F_law_DatingTightB, g_law_DatingTightB, go_sem, reduceIte, Nat.reduceEqDiff, Nat.reduceAdd, Nat.reduceMul, Nat.reduceSub, reduceCtorEq, Nat.reduceLeDiff, Nat.reduceLT, Int.reduceLT, Int.reduceLE, Int.reduceToNat, Int.reduceAdd, Int.reduceSub, Int.reduceNeg, Int.reduceMul, Int.reduceEq, ← Bool.decide_and, ← Bool.decide_or, ↓tq_n, ↓tq_e, ↓tq_r, ↓bq_n, ↓bq_e, ↓bq_r, ↓rq_n, ↓rq_r, ↓rq_e]
    exact ret_ok rfl
  simp only [decide_eq_true hv, hz, F_law_DatingTightB, g_law_DatingTightB, go_sem, reduceIte, Nat.reduceEqDiff, Nat.reduceAdd, Nat.reduceMul, Nat.reduceSub, reduceCtorEq, Nat.reduceLeDiff, Nat.reduceLT, Int.reduceLT, Int.reduceLE, Int.reduceToNat, Int.reduceAdd, Int.reduceSub, Int.reduceNeg, Int.reduceMul, Int.reduceEq, ← Bool.decide_and, ← Bool.decide_or, ↓tq_n, ↓tq_e, ↓tq_r, ↓bq_n, ↓bq_e, ↓bq_r, ↓rq_n, ↓rq_r, ↓rq_e]
  refine CallG.mk (r_base_Mod k0 (c.ty.length : Int) _ (by omega)) ?_
  have n1 := Int.emod_nonneg k0 hz
  have n2 := Int.emod_lt_of_pos k0 (show (0 : Int) < (c.ty.length : Int) by omega)
  obtain ⟨k, hk⟩ : ∃ k : Nat, k0 % (c.ty.length : Int) = k := ⟨(k0 % (c.ty.length : Int)).toNat, by omega⟩
  rw [hk] at n1 n2 ⊢
  have hkl : k < c.ty.length := by omega
  simp only [F_law_DatingTightB, g_law_DatingTightB, go_sem, reduceIte, Nat.reduceEqDiff, Nat.reduceAdd, Nat.reduceMul, Nat.reduceSub, reduceCtorEq, Nat.reduceLeDiff, Nat.reduceLT, Int.reduceLT, Int.reduceLE, Int.reduceToNat, Int.reduceAdd, Int.reduceSub, Int.reduceNeg, Int.reduceMul, Int.reduceEq, ← Bool.decide_and, ← Bool.decide_or, ↓tq_n, ↓tq_e, ↓tq_r, ↓bq_n, ↓bq_e, ↓bq_r, ↓rq_n, ↓rq_r, ↓rq_e]
  refine CallG.mk (r_dating_Dates c _) ?_
  obtain ⟨m1, w1, m2, w2, e1⟩ := datesV_eq c
  rw [e1]
  simp only [n2, prs_drop hkl, F_law_DatingTightB, g_law_DatingTightB, go_sem, reduceIte, Nat.reduceEqDiff, Nat.reduceAdd, Nat.reduceMul, Nat.reduceSub, reduceCtorEq, Nat.reduceLeDiff, Nat.reduceLT, Int.reduceLT, Int.reduceLE, Int.reduceToNat, Int.reduceAdd, Int.reduceSub, Int.reduceNeg, Int.reduceMul, Int.reduceEq, ← Bool.decide_and, ← Bool.decide_or, ↓tq_n, ↓tq_e, ↓tq_r, ↓bq_n, ↓bq_e, ↓bq_r, ↓rq_n, ↓rq_r, ↓rq_e]
  refine CallG.mk (r_base_Clip _ _ _ _) ?_
  obtain ⟨y, hy⟩ : ∃ y, y = max (c.ty.getD k (0, 0)).1 (min y0 (c.ty.getD k (0, 0)).2) := ⟨_, rfl⟩
  have hyv := hv.2.1 k hkl
  unfold Yv at hyv
  have y1 : (c.ty.getD k (0, 0)).1 ≤ y := by omega
  have y2 : y ≤ (c.ty.getD k (0, 0)).2 := by omega
  rw [← hy]
  simp only [F_law_DatingTightB, g_law_DatingTightB, go_sem, reduceIte, Nat.reduceEqDiff, Nat.reduceAdd, Nat.reduceMul, Nat.reduceSub, reduceCtorEq, Nat.reduceLeDiff, Nat.reduceLT, Int.reduceLT, Int.reduceLE, Int.reduceToNat, Int.reduceAdd, Int.reduceSub, Int.reduceNeg, Int.reduceMul, Int.reduceEq, ← Bool.decide_and, ← Bool.decide_or, ↓tq_n, ↓tq_e, ↓tq_r, ↓bq_n, ↓bq_e, ↓bq_r, ↓rq_n, ↓rq_r, ↓rq_e]
  refine ⟨prs_len _, by omega, by omega, by omega, MslG.mk fun bk hbk => ?_⟩
  have hsp : ((prs c.ty).set (k * 2) (I y)).set (k * 2 + 1) (I y) = prs (c.ty.set k (y, y)) := prs_set c.ty k (y, y) hkl
  simp only [n2, hsp, prs_len, F_law_DatingTightB, g_law_DatingTightB, go_sem, reduceIte, Nat.reduceEqDiff, Nat.reduceAdd, Nat.reduceMul, Nat.reduceSub, reduceCtorEq, Nat.reduceLeDiff, Nat.reduceLT, Int.reduceLT, Int.reduceLE, Int.reduceToNat, Int.reduceAdd, Int.reduceSub, Int.reduceNeg, Int.reduceMul, Int.reduceEq, ← Bool.decide_and, ← Bool.decide_or, ↓tq_n, ↓tq_e, ↓tq_r, ↓bq_n, ↓bq_e, ↓bq_r, ↓rq_n, ↓rq_r, ↓rq_e]
  have v2 := setT_vc hv hkl y1 y2
  have hok := setT_ok hv hkl y1 y2
  have hcs : (setT c k y).cs = [] ++ .sl false c.ty.length ((prs (c.ty.set k (y, y))).take (c.ty.length * 2)) .unk :: [.sl c.nlH c.ho.length (hds c.ho) c.tlH, .sl c.nlG c.ga.length (trs c.ga) c.tlG] := by
    rw [List.take_of_length_le (by rw [prs_len, List.length_set]; exact Nat.le_refl _)]
    simp [setT, Cr.cs]
  refine ⟨by omega, CallS.mk (ends_fix (pre := []) (r_dating_Some (setT c k y)) (AH.blk_put _ _ _) hcs) fun r H hr => ?_⟩
  obtain ⟨rfl, rfl⟩ := hr
  rw [AH.del_put hbk]
  obtain ⟨m3, w3, m4, w4, e2⟩ := endsV_eq (setT c k y) false
  rw [e2]
  have hq : qq (setT c k y) = if Ok (setT c k y) then 0 else 10 := by unfold qq; rw [if_pos v2]
  by_cases ho : Ok c
  case neg =>
    have ho2 : ¬ Ok (setT c k y) := fun hh => ho (hok.1 hh).1
    have q1 : qq c = 10 := by unfold qq; rw [if_pos hv, if_neg ho]
    rw [if_neg ho2] at hq
    simp only [q1, hq, F_law_DatingTightB, g_law_DatingTightB, go_sem, reduceIte, Nat.reduceEqDiff, Nat.reduceAdd, Nat.reduceMul, Nat.reduceSub, reduceCtorEq, Nat.reduceLeDiff, Nat.reduceLT, Int.reduceLT, Int.reduceLE, Int.reduceToNat, Int.reduceAdd, Int.reduceSub, Int.reduceNeg, Int.reduceMul, Int.reduceEq, ← Bool.decide_and, ← Bool.decide_or, ↓tq_n, ↓tq_e, ↓tq_r, ↓bq_n, ↓bq_e, ↓bq_r, ↓rq_n, ↓rq_r, ↓rq_e]
    exact ret_ok rfl
  have q1 : qq c = 0 := by unfold qq; rw [if_pos hv, if_pos ho]
  have hT : dT c = zT c := by unfold dT; rw [if_pos ⟨hv, ho⟩]
  have hlen : (dT c).length = c.ty.length := by rw [hT, zT_len]
  have hd := prs_drop (e := dT c) (i := k) (by omega)
  rw [hT, zT_at c hkl, ← hT] at hd
  have hok2 : Ok (setT c k y) ↔ (loc c false).getD k 0 ≤ y ∧ y ≤ (loc c true).getD k 0 := ⟨fun hh => (hok.1 hh).2, fun hh => hok.2 ⟨ho, hh⟩⟩
  simp only [q1, hlen, n2, hd, F_law_DatingTightB, g_law_DatingTightB, go_sem, reduceIte, Nat.reduceEqDiff, Nat.reduceAdd, Nat.reduceMul, Nat.reduceSub, reduceCtorEq, Nat.reduceLeDiff, Nat.reduceLT, Int.reduceLT, Int.reduceLE, Int.reduceToNat, Int.reduceAdd, Int.reduceSub, Int.reduceNeg, Int.reduceMul, Int.reduceEq, ← Bool.decide_and, ← Bool.decide_or, ↓tq_n, ↓tq_e, ↓tq_r, ↓bq_n, ↓bq_e, ↓bq_r, ↓rq_n, ↓rq_r, ↓rq_e]
  refine CallG.mk (r_base_In _ _ _ _) ?_
  by_cases ho2 : Ok (setT c k y)
  · rw [if_pos ho2] at hq
    simp only [hq, decide_eq_true (hok2.1 ho2), F_law_DatingTightB, g_law_DatingTightB, go_sem, reduceIte, Nat.reduceEqDiff, Nat.reduceAdd, Nat.reduceMul, Nat.reduceSub, reduceCtorEq, Nat.reduceLeDiff, Nat.reduceLT, Int.reduceLT, Int.reduceLE, Int.reduceToNat, Int.reduceAdd, Int.reduceSub, Int.reduceNeg, Int.reduceMul, Int.reduceEq, ← Bool.decide_and, ← Bool.decide_or, ↓tq_n, ↓tq_e, ↓tq_r, ↓bq_n, ↓bq_e, ↓bq_r, ↓rq_n, ↓rq_r, ↓rq_e]
    exact ret_ok rfl
  · rw [if_neg ho2] at hq
    simp only [hq, decide_eq_false (fun hh => ho2 (hok2.2 hh)), F_law_DatingTightB, g_law_DatingTightB, go_sem, reduceIte, Nat.reduceEqDiff, Nat.reduceAdd, Nat.reduceMul, Nat.reduceSub, reduceCtorEq, Nat.reduceLeDiff, Nat.reduceLT, Int.reduceLT, Int.reduceLE, Int.reduceToNat, Int.reduceAdd, Int.reduceSub, Int.reduceNeg, Int.reduceMul, Int.reduceEq, ← Bool.decide_and, ← Bool.decide_or, ↓tq_n, ↓tq_e, ↓tq_r, ↓bq_n, ↓bq_e, ↓bq_r, ↓rq_n, ↓rq_r, ↓rq_e]
    exact ret_ok rfl

set_option maxHeartbeats 2000000 in
theorem r_law_DatingCloses (c : Cr) (k0 y0 : Int) (h : AH) : RCall Try.prog n_law_DatingClosesB [.st c.cs, I k0, I y0] h (.bool true) := by
  refine RCall.of hm cF_law_DatingClosesB (by simp [g_law_DatingClosesB]) fun hw h' hl => ?_
  simp only [Cr.cs, F_law_DatingClosesB, g_law_DatingClosesB, go_sem, reduceIte, Nat.reduceEqDiff, Nat.reduceAdd, Nat.reduceMul, Nat.reduceSub, reduceCtorEq, Nat.reduceLeDiff, Nat.reduceLT, Int.reduceLT, Int.reduceLE, Int.reduceToNat, Int.reduceAdd, Int.reduceSub, Int.reduceNeg, Int.reduceMul, Int.reduceEq, ← Bool.decide_and, ← Bool.decide_or, ↓tq_n, ↓tq_e, ↓tq_r, ↓bq_n, ↓bq_e, ↓bq_r, ↓rq_n, ↓rq_r, ↓rq_e]
  refine CallG.mk (r_law_awake _) ?_
  simp only [F_law_DatingClosesB, g_law_DatingClosesB, go_sem, reduceIte, Nat.reduceEqDiff, Nat.reduceAdd, Nat.reduceMul, Nat.reduceSub, reduceCtorEq, Nat.reduceLeDiff, Nat.reduceLT, Int.reduceLT, Int.reduceLE, Int.reduceToNat, Int.reduceAdd, Int.reduceSub, Int.reduceNeg, Int.reduceMul, Int.reduceEq, ← Bool.decide_and, ← Bool.decide_or, ↓tq_n, ↓tq_e, ↓tq_r, ↓bq_n, ↓bq_e, ↓bq_r, ↓rq_n, ↓rq_r, ↓rq_e]
  refine CallG.mk (r_law_few c _) ?_
  simp only [F_law_DatingClosesB, g_law_DatingClosesB, go_sem, reduceIte, Nat.reduceEqDiff, Nat.reduceAdd, Nat.reduceMul, Nat.reduceSub, reduceCtorEq, Nat.reduceLeDiff, Nat.reduceLT, Int.reduceLT, Int.reduceLE, Int.reduceToNat, Int.reduceAdd, Int.reduceSub, Int.reduceNeg, Int.reduceMul, Int.reduceEq, ← Bool.decide_and, ← Bool.decide_or, ↓tq_n, ↓tq_e, ↓tq_r, ↓bq_n, ↓bq_e, ↓bq_r, ↓rq_n, ↓rq_r, ↓rq_e]
  refine ⟨fun h1 => CallG.mk (r_law_awake _) ?_, fun h1 => CallG.mk (r_ref_Valid c _) ?_⟩
  · simp only [F_law_DatingClosesB, g_law_DatingClosesB, go_sem, reduceIte, Nat.reduceEqDiff, Nat.reduceAdd, Nat.reduceMul, Nat.reduceSub, reduceCtorEq, Nat.reduceLeDiff, Nat.reduceLT, Int.reduceLT, Int.reduceLE, Int.reduceToNat, Int.reduceAdd, Int.reduceSub, Int.reduceNeg, Int.reduceMul, Int.reduceEq, ← Bool.decide_and, ← Bool.decide_or, ↓tq_n, ↓tq_e, ↓tq_r, ↓bq_n, ↓bq_e, ↓bq_r, ↓rq_n, ↓rq_r, ↓rq_e]; exact ret_ok rfl
  by_cases hv : VC c
  case neg =>
    simp only [decide_eq_false hv, F_law_DatingClosesB, g_law_DatingClosesB, go_sem, reduceIte, Nat.reduceEqDiff, Nat.reduceAdd, Nat.reduceMul, Nat.reduceSub, reduceCtorEq, Nat.reduceLeDiff, Nat.reduceLT, Int.reduceLT, Int.reduceLE, Int.reduceToNat, Int.reduceAdd, Int.reduceSub, Int.reduceNeg, Int.reduceMul, Int.reduceEq, ← Bool.decide_and, ← Bool.decide_or, ↓tq_n, ↓tq_e, ↓tq_r, ↓bq_n, ↓bq_e, ↓bq_r, ↓rq_n, ↓rq_r, ↓rq_e]
    refine CallG.mk (r_law_awake _) ?_
    simp only [F_law_DatingClosesB, g_law_DatingClosesB, go_sem, reduceIte, Nat.reduceEqDiff, Nat.reduceAdd, Nat.reduceMul, Nat.reduceSub, reduceCtorEq, Nat.reduceLeDiff, Nat.reduceLT, Int.reduceLT, Int.reduceLE, Int.reduceToNat, Int.reduceAdd, Int.reduceSub, Int.reduceNeg, Int.reduceMul, Int.reduceEq, ← Bool.decide_and, ← Bool.decide_or, ↓tq_n, ↓tq_e, ↓tq_r, ↓bq_n, ↓bq_e, ↓bq_r, ↓rq_n, ↓rq_r, ↓rq_e]
    exact ret_ok rfl
  obtain ⟨b8, b6, b16⟩ := hv.1
  by_cases hz : (c.ho.length : Int) = 0
  · simp only [decide_eq_true hv, hz, F_law_DatingClosesB, g_law_DatingClosesB, go_sem, reduceIte, Nat.reduceEqDiff, Nat.reduceAdd, Nat.reduceMul, Nat.reduceSub, reduceCtorEq, Nat.reduceLeDiff, Nat.reduceLT, Int.reduceLT, Int.reduceLE, Int.reduceToNat, Int.reduceAdd, Int.reduceSub, Int.reduceNeg, Int.reduceMul, Int.reduceEq, ← Bool.decide_and, ← Bool.decide_or, ↓tq_n, ↓tq_e, ↓tq_r, ↓bq_n, ↓bq_e, ↓bq_r, ↓rq_n, ↓rq_r, ↓rq_e]
    refine CallG.mk (r_law_awake _) ?_
    simp only [F_law_DatingClosesB, g_law_DatingClosesB, go_sem, reduceIte, Nat.reduceEqDiff, Nat.reduceAdd, Nat.reduceMul, Nat.reduceSub, reduceCtorEq, Nat.reduceLeDiff, Nat.reduceLT, Int.reduceLT, Int.reduceLE, Int.reduceToNat, Int.reduceAdd, Int.reduceSub, Int.reduceNeg, Int.reduceMul, Int.reduceEq, ← Bool.decide_and, ← Bool.decide_or, ↓tq_n, ↓tq_e, ↓tq_r, ↓bq_n, ↓bq_e, ↓bq_r, ↓rq_n, ↓rq_r, ↓rq_e]
    exact ret_ok rfl
  simp only [decide_eq_true hv, hz, F_law_DatingClosesB, g_law_DatingClosesB, go_sem, reduceIte, Nat.reduceEqDiff, Nat.reduceAdd, Nat.reduceMul, Nat.reduceSub, reduceCtorEq, Nat.reduceLeDiff, Nat.reduceLT, Int.reduceLT, Int.reduceLE, Int.reduceToNat, Int.reduceAdd, Int.reduceSub, Int.reduceNeg, Int.reduceMul, Int.reduceEq, ← Bool.decide_and, ← Bool.decide_or, ↓tq_n, ↓tq_e, ↓tq_r, ↓bq_n, ↓bq_e, ↓bq_r, ↓rq_n, ↓rq_r, ↓rq_e]
  refine CallG.mk (r_base_Mod k0 (c.ho.length : Int) _ (by omega)) ?_
  have n1 := Int.emod_nonneg k0 hz
  have n2 := Int.emod_lt_of_pos k0 (show (0 : Int) < (c.ho.length : Int) by omega)
  obtain ⟨k, hk⟩ : ∃ k : Nat, k0 % (c.ho.length : Int) = k := ⟨(k0 % (c.ho.length : Int)).toNat, by omega⟩
  rw [hk] at n1 n2 ⊢
  have hkl : k < c.ho.length := by omega
  simp only [F_law_DatingClosesB, g_law_DatingClosesB, go_sem, reduceIte, Nat.reduceEqDiff, Nat.reduceAdd, Nat.reduceMul, Nat.reduceSub, reduceCtorEq, Nat.reduceLeDiff, Nat.reduceLT, Int.reduceLT, Int.reduceLE, Int.reduceToNat, Int.reduceAdd, Int.reduceSub, Int.reduceNeg, Int.reduceMul, Int.reduceEq, ← Bool.decide_and, ← Bool.decide_or, ↓tq_n, ↓tq_e, ↓tq_r, ↓bq_n, ↓bq_e, ↓bq_r, ↓rq_n, ↓rq_r, ↓rq_e]
  refine CallG.mk (r_dating_Dates c _) ?_
  obtain ⟨m1, w1, m2, w2, e1⟩ := datesV_eq c
  rw [e1]
  simp only [n2, hds_drop hkl, F_law_DatingClosesB, g_law_DatingClosesB, go_sem, reduceIte, Nat.reduceEqDiff, Nat.reduceAdd, Nat.reduceMul, Nat.reduceSub, reduceCtorEq, Nat.reduceLeDiff, Nat.reduceLT, Int.reduceLT, Int.reduceLE, Int.reduceToNat, Int.reduceAdd, Int.reduceSub, Int.reduceNeg, Int.reduceMul, Int.reduceEq, ← Bool.decide_and, ← Bool.decide_or, ↓tq_n, ↓tq_e, ↓tq_r, ↓bq_n, ↓bq_e, ↓bq_r, ↓rq_n, ↓rq_r, ↓rq_e]
  refine CallG.mk (r_base_Clip _ _ _ _) ?_
  obtain ⟨y, hy⟩ : ∃ y, y = max (c.ho.getD k dH).cl.1 (min y0 (c.ho.getD k dH).cl.2) := ⟨_, rfl⟩
  have hyv := (hv.2.2.1 k hkl).1.2.2.2
  unfold Yv at hyv
  have y1 : (c.ho.getD k dH).cl.1 ≤ y := by omega
  have y2 : y ≤ (c.ho.getD k dH).cl.2 := by omega
  rw [← hy]
  simp only [F_law_DatingClosesB, g_law_DatingClosesB, go_sem, reduceIte, Nat.reduceEqDiff, Nat.reduceAdd, Nat.reduceMul, Nat.reduceSub, reduceCtorEq, Nat.reduceLeDiff, Nat.reduceLT, Int.reduceLT, Int.reduceLE, Int.reduceToNat, Int.reduceAdd, Int.reduceSub, Int.reduceNeg, Int.reduceMul, Int.reduceEq, ← Bool.decide_and, ← Bool.decide_or, ↓tq_n, ↓tq_e, ↓tq_r, ↓bq_n, ↓bq_e, ↓bq_r, ↓rq_n, ↓rq_r, ↓rq_e]
  refine ⟨hds_len _, by omega, by omega, by omega, MslG.mk fun bk hbk => ?_⟩
  have hsp : ((hds c.ho).set (k * 4 + 2) (I y)).set (k * 4 + 2 + 1) (I y) = hds (c.ho.set k { c.ho.getD k dH with cl := (y, y) }) := hds_set c.ho k (y, y) hkl
  simp only [n2, hsp, hds_len, F_law_DatingClosesB, g_law_DatingClosesB, go_sem, reduceIte, Nat.reduceEqDiff, Nat.reduceAdd, Nat.reduceMul, Nat.reduceSub, reduceCtorEq, Nat.reduceLeDiff, Nat.reduceLT, Int.reduceLT, Int.reduceLE, Int.reduceToNat, Int.reduceAdd, Int.reduceSub, Int.reduceNeg, Int.reduceMul, Int.reduceEq, ← Bool.decide_and, ← Bool.decide_or, ↓tq_n, ↓tq_e, ↓tq_r, ↓bq_n, ↓bq_e, ↓bq_r, ↓rq_n, ↓rq_r, ↓rq_e]
  have v2 := setH_vc hv hkl y1 y2
  have hok := setH_ok hv hkl y1 y2
  have hcs : (setH c k y).cs = [.sl c.nlT c.ty.length (prs c.ty) c.tlT] ++ .sl false c.ho.length ((hds (c.ho.set k { c.ho.getD k dH with cl := (y, y) })).take (c.ho.length * 4)) .unk :: [.sl c.nlG c.ga.length (trs c.ga) c.tlG] := by
    rw [List.take_of_length_le (by rw [hds_len, List.length_set]; exact Nat.le_refl _)]
    simp [setH, Cr.cs]
  refine ⟨by omega, CallS.mk (ends_fix (pre := [.sl c.nlT c.ty.length (prs c.ty) c.tlT]) (r_dating_Last (setH c k y)) (AH.blk_put _ _ _) hcs) fun r H hr => ?_⟩
  obtain ⟨rfl, rfl⟩ := hr
  rw [AH.del_put hbk]
  obtain ⟨m3, w3, m4, w4, e2⟩ := endsV_eq (setH c k y) true
  rw [e2]
  have hq : qq (setH c k y) = if Ok (setH c k y) then 0 else 10 := by unfold qq; rw [if_pos v2]
  by_cases ho : Ok c
  case neg =>
    have ho2 : ¬ Ok (setH c k y) := fun hh => ho (hok.1 hh).1
    have q1 : qq c = 10 := by unfold qq; rw [if_pos hv, if_neg ho]
    rw [if_neg ho2] at hq
    simp only [q1, hq, F_law_DatingClosesB, g_law_DatingClosesB, go_sem, reduceIte, Nat.reduceEqDiff, Nat.reduceAdd, Nat.reduceMul, Nat.reduceSub, reduceCtorEq, Nat.reduceLeDiff, Nat.reduceLT, Int.reduceLT, Int.reduceLE, Int.reduceToNat, Int.reduceAdd, Int.reduceSub, Int.reduceNeg, Int.reduceMul, Int.reduceEq, ← Bool.decide_and, ← Bool.decide_or, ↓tq_n, ↓tq_e, ↓tq_r, ↓bq_n, ↓bq_e, ↓bq_r, ↓rq_n, ↓rq_r, ↓rq_e]
    exact ret_ok rfl
  have q1 : qq c = 0 := by unfold qq; rw [if_pos hv, if_pos ho]
  have hT : dHo c = zH c := by unfold dHo; rw [if_pos ⟨hv, ho⟩]
  have hlen : (dHo c).length = c.ho.length := by rw [hT, zH_len]
  have hd := prs_drop (e := dHo c) (i := k) (by omega)
  rw [hT, zH_at c hkl, ← hT] at hd
  have hok2 : Ok (setH c k y) ↔ (hoc c false).getD k 0 ≤ y ∧ y ≤ (hoc c true).getD k 0 := ⟨fun hh => (hok.1 hh).2, fun hh => hok.2 ⟨ho, hh⟩⟩
  simp only [q1, hlen, n2, hd, F_law_DatingClosesB, g_law_DatingClosesB, go_sem, reduceIte, Nat.reduceEqDiff, Nat.reduceAdd, Nat.reduceMul, Nat.reduceSub, reduceCtorEq, Nat.reduceLeDiff, Nat.reduceLT, Int.reduceLT, Int.reduceLE, Int.reduceToNat, Int.reduceAdd, Int.reduceSub, Int.reduceNeg, Int.reduceMul, Int.reduceEq, ← Bool.decide_and, ← Bool.decide_or, ↓tq_n, ↓tq_e, ↓tq_r, ↓bq_n, ↓bq_e, ↓bq_r, ↓rq_n, ↓rq_r, ↓rq_e]
  refine CallG.mk (r_base_In _ _ _ _) ?_
  by_cases ho2 : Ok (setH c k y)
  · rw [if_pos ho2] at hq
    simp only [hq, decide_eq_true (hok2.1 ho2), F_law_DatingClosesB, g_law_DatingClosesB, go_sem, reduceIte, Nat.reduceEqDiff, Nat.reduceAdd, Nat.reduceMul, Nat.reduceSub, reduceCtorEq, Nat.reduceLeDiff, Nat.reduceLT, Int.reduceLT, Int.reduceLE, Int.reduceToNat, Int.reduceAdd, Int.reduceSub, Int.reduceNeg, Int.reduceMul, Int.reduceEq, ← Bool.decide_and, ← Bool.decide_or, ↓tq_n, ↓tq_e, ↓tq_r, ↓bq_n, ↓bq_e, ↓bq_r, ↓rq_n, ↓rq_r, ↓rq_e]
    exact ret_ok rfl
  · rw [if_neg ho2] at hq
    simp only [hq, decide_eq_false (fun hh => ho2 (hok2.2 hh)), F_law_DatingClosesB, g_law_DatingClosesB, go_sem, reduceIte, Nat.reduceEqDiff, Nat.reduceAdd, Nat.reduceMul, Nat.reduceSub, reduceCtorEq, Nat.reduceLeDiff, Nat.reduceLT, Int.reduceLT, Int.reduceLE, Int.reduceToNat, Int.reduceAdd, Int.reduceSub, Int.reduceNeg, Int.reduceMul, Int.reduceEq, ← Bool.decide_and, ← Bool.decide_or, ↓tq_n, ↓tq_e, ↓tq_r, ↓bq_n, ↓bq_e, ↓bq_r, ↓rq_n, ↓rq_r, ↓rq_e]
    exact ret_ok rfl
end Go.Proofs.Ytcicklmlbdfneaa
