/- The statement PrecedenceChains as a call. No condition. -/
import Derived.Test.YtndcbompcnlhmaaD10
import Derived.Test.YtndcbompcnlhmaaP4
namespace Go.Proofs.Ytndcbompcnlhmaa
open Go Go.Abs
set_option linter.unusedSimpArgs false
set_option linter.unusedVariables false
set_option maxRecDepth 20000

theorem set7 {S : List AV} (h : S.length = 7) (a b c d e f g : AV) : ((((((S.set 0 a).set 1 b).set 2 c).set 3 d).set 4 e).set 5 f).set 6 g = [a, b, c, d, e, f, g] := by
  match S, h with
  | [_, _, _, _, _, _, _], _ => rfl
theorem put_comm (G : AH) {b13 b14 : Nat} (h : b14 ≠ b13) (x y z : List AV) : ((G.put b13 x).put b14 y).put b13 z = (G.put b13 z).put b14 y := by
  simp only [AH.put, AH.mk.injEq, and_true]
  funext c
  by_cases h1 : c = b13
  · subst h1
    have h' : ¬ c = b14 := fun hh => h hh.symm
    simp [h']
  · by_cases h2 : c = b14
    · subst h2; simp [h]
    · simp [h1, h2]
/-- A specimen once it was met. -/
def sel (l : List Spm) (v k : Nat) : List AV := if v < k then (l.getD v dS).cs else dS.cs
theorem sel_succ {l : List Spm} (h : ckE l = 0) {v k : Nat} (hv : v < l.length) (hk : k < l.length) : sel l v (k + 1) = if (l.getD k dS).id = (l.getD v dS).id then (l.getD k dS).cs else sel l v k := by
  unfold sel
  by_cases e : (l.getD k dS).id = (l.getD v dS).id
  · have := id_inj h hk hv e
    subst this
    rw [if_pos e, if_pos (by omega)]
  · rw [if_neg e]
    by_cases h1 : v < k
    · rw [if_pos h1, if_pos (by omega)]
    · have : v ≠ k := fun hh => e (by rw [hh])
      rw [if_neg h1, if_neg (by omega)]
theorem sel_all {l : List Spm} {v : Nat} (hv : v < l.length) : sel l v l.length = (l.getD v dS).cs := by unfold sel; rw [if_pos hv]
/-- What a step of a chain is. -/
theorem lk_step {l : List Spm} {c : List (Int × Int)} (h : gaE l c = 0) {v : Nat} (hv : v < l.length) {e : T3} {o : List T3} {g : Int} (hk : Lk l (pcs l c) (v : Int) (e :: o) g) :
    ∃ w : Nat, w < l.length ∧ e.2.1 = (l.getD v dS).id ∧ e.2.2 = (l.getD w dS).id ∧ Lk l (pcs l c) (w : Int) o g ∧
      ((e.1 = 0 ∧ (l.getD v dS).obv = (l.getD w dS).obv ∧ (l.getD v dS).os < (l.getD w dS).os) ∨ (e.1 = 1 ∧ (l.getD v dS).rev = (l.getD w dS).rev ∧ (l.getD v dS).rs < (l.getD w dS).rs) ∨ (e.1 = 2 ∧ ((l.getD v dS).id, (l.getD w dS).id) ∈ c)) := by
  obtain ⟨p, hp, h1, rfl, h3⟩ := hk
  have hr := (ga_ok h).2.2.1 p hp
  obtain ⟨w, hw⟩ : ∃ w : Nat, p.2.2 = w := ⟨p.2.2.toNat, by omega⟩
  rw [hw] at h3
  refine ⟨w, by omega, by simp [idA], by simp [idA, hw], h3, ?_⟩
  rcases mem_pcs.1 hp with ⟨s, hs, a, k, a1, a2, a3, rfl⟩ | ⟨q, hq, rfl⟩
  · simp only at h1 hw ⊢
    have ea : a = v := by omega
    have ek : k = w := by omega
    subst ea; subst ek
    have : s = 0 ∨ s = 1 := by omega
    rcases this with rfl | rfl
    · unfold bfS at a3
      rw [if_pos (by rfl)] at a3
      simp only [Bool.and_eq_true, decide_eq_true_eq] at a3
      exact .inl ⟨rfl, a3⟩
    · unfold bfS at a3
      rw [if_neg (by decide)] at a3
      simp only [Bool.and_eq_true, decide_eq_true_eq] at a3
      exact .inr (.inl ⟨rfl, a3⟩)
  · simp only at h1 hw ⊢
    refine .inr (.inr ⟨trivial, ?_⟩)
    have e1 := plc_some (l := l) (x := q.1) (by omega)
    have e2 := plc_some (l := l) (x := q.2) (by omega)
    rw [h1, Int.toNat_natCast] at e1
    rw [hw, Int.toNat_natCast] at e2
    rw [e1, e2]
    exact hq
set_option maxHeartbeats 8000000 in
theorem r_law_PrecedenceChains (n1 : Bool) (l : List Spm) (u1 : Tail) (n2 : Bool) (c : List (Int × Int)) (u2 : Tail) (x : Int × Int) (h : AH) : RCall Try.prog n_law_PrecedenceChains [.sl n1 l.length (sms l) u1, .sl n2 c.length (prs c) u2, .st [I x.1, I x.2]] h (.bool true) := by
  refine RCall.of hm cF_law_PrecedenceChains (by simp [g_law_PrecedenceChains]) fun hw h' hl => ?_
  simp only [F_law_PrecedenceChains, g_law_PrecedenceChains, go_sem, reduceIte, Nat.reduceEqDiff, Nat.reduceAdd, Nat.reduceMul, Nat.reduceSub, reduceCtorEq, Nat.reduceLeDiff, Nat.reduceLT, Int.reduceLT, Int.reduceLE, Int.reduceToNat, Int.reduceAdd, Int.reduceSub, Int.reduceNeg, Int.reduceMul, Int.reduceEq, ← Bool.decide_and, ← Bool.decide_or, ↓tq_n, ↓tq_e, ↓tq_r, ↓bq_n, ↓bq_e, ↓bq_r, ↓rq_n, ↓rq_r, ↓rq_e]
  refine CallG.mk (r_law_awake _) ?_
  simp only [F_law_PrecedenceChains, g_law_PrecedenceChains, go_sem, reduceIte, Nat.reduceEqDiff, Nat.reduceAdd, Nat.reduceMul, Nat.reduceSub, reduceCtorEq, Nat.reduceLeDiff, Nat.reduceLT, Int.reduceLT, Int.reduceLE, Int.reduceToNat, Int.reduceAdd, Int.reduceSub, Int.reduceNeg, Int.reduceMul, Int.reduceEq, ← Bool.decide_and, ← Bool.decide_or, ↓tq_n, ↓tq_e, ↓tq_r, ↓bq_n, ↓bq_e, ↓bq_r, ↓rq_n, ↓rq_r, ↓rq_e]
  refine CallG.mk (r_law_few n1 l u1 n2 c u2 _) ?_
  cases hf : fwC l c with
  | false =>
    simp only [F_law_PrecedenceChains, g_law_PrecedenceChains, go_sem, reduceIte, Nat.reduceEqDiff, Nat.reduceAdd, Nat.reduceMul, Nat.reduceSub, reduceCtorEq, Nat.reduceLeDiff, Nat.reduceLT, Int.reduceLT, Int.reduceLE, Int.reduceToNat, Int.reduceAdd, Int.reduceSub, Int.reduceNeg, Int.reduceMul, Int.reduceEq, ← Bool.decide_and, ← Bool.decide_or, ↓tq_n, ↓tq_e, ↓tq_r, ↓bq_n, ↓bq_e, ↓bq_r, ↓rq_n, ↓rq_r, ↓rq_e]
    refine CallG.mk (r_law_awake _) ?_
    simp only [F_law_PrecedenceChains, g_law_PrecedenceChains, go_sem, reduceIte, Nat.reduceEqDiff, Nat.reduceAdd, Nat.reduceMul, Nat.reduceSub, reduceCtorEq, Nat.reduceLeDiff, Nat.reduceLT, Int.reduceLT, Int.reduceLE, Int.reduceToNat, Int.reduceAdd, Int.reduceSub, Int.reduceNeg, Int.reduceMul, Int.reduceEq, ← Bool.decide_and, ← Bool.decide_or, ↓tq_n, ↓tq_e, ↓tq_r, ↓bq_n, ↓bq_e, ↓bq_r, ↓rq_n, ↓rq_r, ↓rq_e]
    exact ret_ok rfl
  | true =>
    have z02 : (0 : Int) < ((2 : Nat) : Int) := by decide
    have z12 : (1 : Int) < ((2 : Nat) : Int) := by decide
    by_cases hx : x.1 = x.2
    · simp only [hx, z02, z12, F_law_PrecedenceChains, g_law_PrecedenceChains, go_sem, reduceIte, Nat.reduceEqDiff, Nat.reduceAdd, Nat.reduceMul, Nat.reduceSub, reduceCtorEq, Nat.reduceLeDiff, Nat.reduceLT, Int.reduceLT, Int.reduceLE, Int.reduceToNat, Int.reduceAdd, Int.reduceSub, Int.reduceNeg, Int.reduceMul, Int.reduceEq, ← Bool.decide_and, ← Bool.decide_or, ↓tq_n, ↓tq_e, ↓tq_r, ↓bq_n, ↓bq_e, ↓bq_r, ↓rq_n, ↓rq_r, ↓rq_e]
      refine CallG.mk (r_law_awake _) ?_
      simp only [z02, z12, F_law_PrecedenceChains, g_law_PrecedenceChains, go_sem, reduceIte, Nat.reduceEqDiff, Nat.reduceAdd, Nat.reduceMul, Nat.reduceSub, reduceCtorEq, Nat.reduceLeDiff, Nat.reduceLT, Int.reduceLT, Int.reduceLE, Int.reduceToNat, Int.reduceAdd, Int.reduceSub, Int.reduceNeg, Int.reduceMul, Int.reduceEq, ← Bool.decide_and, ← Bool.decide_or, ↓tq_n, ↓tq_e, ↓tq_r, ↓bq_n, ↓bq_e, ↓bq_r, ↓rq_n, ↓rq_r, ↓rq_e]
      exact ret_ok rfl
    simp only [hx, z02, z12, F_law_PrecedenceChains, g_law_PrecedenceChains, go_sem, reduceIte, Nat.reduceEqDiff, Nat.reduceAdd, Nat.reduceMul, Nat.reduceSub, reduceCtorEq, Nat.reduceLeDiff, Nat.reduceLT, Int.reduceLT, Int.reduceLE, Int.reduceToNat, Int.reduceAdd, Int.reduceSub, Int.reduceNeg, Int.reduceMul, Int.reduceEq, ← Bool.decide_and, ← Bool.decide_or, ↓tq_n, ↓tq_e, ↓tq_r, ↓bq_n, ↓bq_e, ↓bq_r, ↓rq_n, ↓rq_r, ↓rq_e]
    refine CallG.mk (r_precedence_Why n1 l u1 n2 c u2 _ _ _) ?_
    obtain ⟨o, nl, tl, e1, e2, e3⟩ := whV_tup l c x.1 x.2
    rw [e1]
    simp only [z02, z12, F_law_PrecedenceChains, g_law_PrecedenceChains, go_sem, reduceIte, Nat.reduceEqDiff, Nat.reduceAdd, Nat.reduceMul, Nat.reduceSub, reduceCtorEq, Nat.reduceLeDiff, Nat.reduceLT, Int.reduceLT, Int.reduceLE, Int.reduceToNat, Int.reduceAdd, Int.reduceSub, Int.reduceNeg, Int.reduceMul, Int.reduceEq, ← Bool.decide_and, ← Bool.decide_or, ↓tq_n, ↓tq_e, ↓tq_r, ↓bq_n, ↓bq_e, ↓bq_r, ↓rq_n, ↓rq_r, ↓rq_e]
    refine CallG.mk (r_precedence_Closed n1 l u1 n2 c u2 _) ?_
    by_cases d1 : gaE l c = 0
    case neg =>
      rw [clV_no d1]
      have ew : whE l c x.1 x.2 = gaE l c := by unfold whE; rw [if_neg d1]
      have eo := e2 (by rw [ew]; exact d1)
      subst eo
      rw [ew]
      have hz : (([] : List T3).length : Int) = 0 := rfl
      have hz2 : ((0 : Nat) : Int) = 0 := rfl
      simp only [d1, hz, hz2, z02, z12, F_law_PrecedenceChains, g_law_PrecedenceChains, go_sem, reduceIte, Nat.reduceEqDiff, Nat.reduceAdd, Nat.reduceMul, Nat.reduceSub, reduceCtorEq, Nat.reduceLeDiff, Nat.reduceLT, Int.reduceLT, Int.reduceLE, Int.reduceToNat, Int.reduceAdd, Int.reduceSub, Int.reduceNeg, Int.reduceMul, Int.reduceEq, ← Bool.decide_and, ← Bool.decide_or, ↓tq_n, ↓tq_e, ↓tq_r, ↓bq_n, ↓bq_e, ↓bq_r, ↓rq_n, ↓rq_r, ↓rq_e]
      exact ret_ok rfl
    rw [clV_yes d1]
    have hl24 := (ga_ok d1).1
    have hck := (ga_ok d1).2.1
    by_cases d2 : whE l c x.1 x.2 = 0
    case neg =>
      have ew : whE l c x.1 x.2 = 7 := by
        unfold whE at d2 ⊢
        rw [if_pos d1] at d2 ⊢
        split
        · rfl
        · split
          · rename_i a1 a2
            rw [if_neg a1, if_pos a2] at d2
            exact absurd rfl d2
          · rfl
      have eo := e2 d2
      subst eo
      have hnm : (x.1, x.2) ∉ clL l c := fun hm2 => d2 ((whE_iff d1).2 (by
        obtain ⟨a, j, a1, a2, a3, a4⟩ := (mem_clL d1).1 hm2
        exact ⟨a, j, a3, a4, a2⟩))
      rw [ew]
      have hz : (([] : List T3).length : Int) = 0 := rfl
      have hz2 : ((0 : Nat) : Int) = 0 := rfl
      simp only [hz, hz2, z02, z12, F_law_PrecedenceChains, g_law_PrecedenceChains, go_sem, reduceIte, Nat.reduceEqDiff, Nat.reduceAdd, Nat.reduceMul, Nat.reduceSub, reduceCtorEq, Nat.reduceLeDiff, Nat.reduceLT, Int.reduceLT, Int.reduceLE, Int.reduceToNat, Int.reduceAdd, Int.reduceSub, Int.reduceNeg, Int.reduceMul, Int.reduceEq, ← Bool.decide_and, ← Bool.decide_or, ↓tq_n, ↓tq_e, ↓tq_r, ↓bq_n, ↓bq_e, ↓bq_r, ↓rq_n, ↓rq_r, ↓rq_e]
      refine CallG.mk (r_law_has _ (clL l c) .unk x.1 x.2 _) ?_
      rw [decide_eq_false hnm]
      simp only [z02, z12, F_law_PrecedenceChains, g_law_PrecedenceChains, go_sem, reduceIte, Nat.reduceEqDiff, Nat.reduceAdd, Nat.reduceMul, Nat.reduceSub, reduceCtorEq, Nat.reduceLeDiff, Nat.reduceLT, Int.reduceLT, Int.reduceLE, Int.reduceToNat, Int.reduceAdd, Int.reduceSub, Int.reduceNeg, Int.reduceMul, Int.reduceEq, ← Bool.decide_and, ← Bool.decide_or, ↓tq_n, ↓tq_e, ↓tq_r, ↓bq_n, ↓bq_e, ↓bq_r, ↓rq_n, ↓rq_r, ↓rq_e]
      exact ret_ok rfl
    obtain ⟨i0, j0, hi0, hj0, hway⟩ := (whE_iff d1).1 d2
    have hlt := way_lt d1 hway
    have hne : i0 ≠ j0 := fun hh => hx (by rw [← hi0, ← hj0, hh])
    have hmem : (x.1, x.2) ∈ clL l c := (mem_clL d1).2 ⟨i0, j0, hne, hway, hi0, hj0⟩
    have pa : plc l x.1 = i0 := by rw [← hi0]; exact plc_id hck hlt.1
    have pb : plc l x.2 = j0 := by rw [← hj0]; exact plc_id hck hlt.2
    have hwy := e3 d2
    rw [pa, pb] at hwy
    obtain ⟨ho, hlk⟩ := wy_lk hwy
    have g3 := (ga_ok d1).2.2.1
    have hD := far_dst (n := l.length) (b := (j0 : Int)) g3 ⟨by omega, by omega⟩
    have hol : o.length < l.length := by
      have hf0 : 0 < fv (far l.length (pcs l c) j0) (i0 : Int) := by
        have h1 := (far_way g3 hD hlt.2 (v := i0) hlt.1).2 (.inr hway)
        have h2 : (far l.length (pcs l c) j0).getD i0 0 ≠ 0 := fun hh => hne (by have := hD.st.zer i0 hlt.1 hh; omega)
        unfold fv; rw [Int.toNat_natCast]; omega
      have hbd := st_bd hD.st g3 hlt.1
      have hfv : fv (far l.length (pcs l c) j0) (i0 : Int) = (far l.length (pcs l c) j0).getD i0 0 := by unfold fv; rw [Int.toNat_natCast]
      obtain ⟨o', o1, o2⟩ := wy_ex g3 hD hlt.2 (l.length + 2) (i0 : Int) ⟨by omega, by omega⟩ hf0 (by omega)
      rw [hwy] at o1
      cases o1
      omega
    have hop : 0 < o.length := List.length_pos_iff.2 ho
    have hcl := clL_len c hl24
    rw [d2]
    obtain ⟨A, hA⟩ : ∃ A, A = clL l c := ⟨_, rfl⟩
    rw [← hA] at hmem hcl ⊢
    simp only [z02, z12, F_law_PrecedenceChains, g_law_PrecedenceChains, go_sem, reduceIte, Nat.reduceEqDiff, Nat.reduceAdd, Nat.reduceMul, Nat.reduceSub, reduceCtorEq, Nat.reduceLeDiff, Nat.reduceLT, Int.reduceLT, Int.reduceLE, Int.reduceToNat, Int.reduceAdd, Int.reduceSub, Int.reduceNeg, Int.reduceMul, Int.reduceEq, ← Bool.decide_and, ← Bool.decide_or, ↓tq_n, ↓tq_e, ↓tq_r, ↓bq_n, ↓bq_e, ↓bq_r, ↓rq_n, ↓rq_r, ↓rq_e]
    refine awp_loop (α := Nat × Nat × AH) (fun p => [(0, .sl n1 l.length (sms l) u1), (1, .sl n2 c.length (prs c) u2), (5, .sptr [I x.1, I x.2]), (7, .sl nl o.length (trs o) tl), (9, .sl (decide (A.length = 0)) A.length (prs A) .unk), (11, I (l.getD p.2.1 dS).id), (12, I p.1)]) (fun p => p.2.2) (fun p => p.1 ≤ o.length ∧ p.2.1 < l.length ∧ Lk l (pcs l c) (p.2.1 : Int) (o.drop p.1) j0 ∧ h'.le p.2.2) (fun p => o.length - p.1) (0, i0, h') ⟨Nat.zero_le _, hlt.1, by simpa using hlk, AH.le.refl _⟩ ?_ fun p hp => .of_vg hm ?_
    · simp only
      rw [hi0]
      exact (GStep.forget (by repeat' first | exact EnvLe.nil _ | refine EnvLe.cons (AV.le.of_eq rfl) ?_ | refine EnvLe.cons (AV.le.undef _) ?_ | refine EnvLe.cons AV.le.unk ?_) (by repeat' first | exact AH.le.refl _ | assumption | (refine AH.le_put ?_ (by first | assumption | exact (AH.blk_put_ne _ _ (by assumption)).trans (by assumption) | exact AH.none_put (by assumption) | exact AH.none_put (AH.none_put (by assumption)) | (simp only [AH.blk_setTok, AH.tok_put] at *; first | assumption | exact AH.none_put (by assumption)))) | (refine AH.le_setTok ?_ (by first | assumption | exact (AH.blk_put_ne _ _ (by assumption)).trans (by assumption) | exact AH.none_put (by assumption) | exact AH.none_put (AH.none_put (by assumption)) | (simp only [AH.blk_setTok, AH.tok_put] at *; first | assumption | exact AH.none_put (by assumption)))) | (refine AH.le_putM ?_ (by first | assumption | exact (AH.mp_putM_ne _ _ (by assumption)).trans (by assumption) | (simp only [AH.mp_put, AH.mp_setTok] at *; assumption)))))
    obtain ⟨i, v, G⟩ := p
    obtain ⟨p1, p2, p3, p4⟩ := hp
    simp only at p1 p2 p3 p4 ⊢
    by_cases h3 : i < o.length
    · have hc3 : (i : Int) < (o.length : Int) := by omega
      have hdr := trs_drop h3
      rw [getD_drop o d3 h3] at p3
      obtain ⟨w, hw1, hw2, hw3, hw4, hw5⟩ := lk_step d1 p2 p3
      obtain ⟨e, he⟩ : ∃ e, e = o.getD i d3 := ⟨_, rfl⟩
      rw [← he] at hw2 hw3 hw5 hdr
      rw [hw2, hw3] at hdr
      simp only [hc3, F_law_PrecedenceChains, g_law_PrecedenceChains, go_sem, reduceIte, Nat.reduceEqDiff, Nat.reduceAdd, Nat.reduceMul, Nat.reduceSub, reduceCtorEq, Nat.reduceLeDiff, Nat.reduceLT, Int.reduceLT, Int.reduceLE, Int.reduceToNat, Int.reduceAdd, Int.reduceSub, Int.reduceNeg, Int.reduceMul, Int.reduceEq, ← Bool.decide_and, ← Bool.decide_or, ↓tq_n, ↓tq_e, ↓tq_r, ↓bq_n, ↓bq_e, ↓bq_r, ↓rq_n, ↓rq_r, ↓rq_e]
      refine AllocG.mk fun b13 hb13 => ?_
      simp only [z02, z12, F_law_PrecedenceChains, g_law_PrecedenceChains, go_sem, reduceIte, Nat.reduceEqDiff, Nat.reduceAdd, Nat.reduceMul, Nat.reduceSub, reduceCtorEq, Nat.reduceLeDiff, Nat.reduceLT, Int.reduceLT, Int.reduceLE, Int.reduceToNat, Int.reduceAdd, Int.reduceSub, Int.reduceNeg, Int.reduceMul, Int.reduceEq, ← Bool.decide_and, ← Bool.decide_or, ↓tq_n, ↓tq_e, ↓tq_r, ↓bq_n, ↓bq_e, ↓bq_r, ↓rq_n, ↓rq_r, ↓rq_e]
      refine AllocG.mk fun b14 hb14 => ?_
      have hnb : b14 ≠ b13 := AH.ne_of_put hb14
      have hb14' : G.blk b14 = none := AH.none_put hb14
      simp only [z02, z12, F_law_PrecedenceChains, g_law_PrecedenceChains, go_sem, reduceIte, Nat.reduceEqDiff, Nat.reduceAdd, Nat.reduceMul, Nat.reduceSub, reduceCtorEq, Nat.reduceLeDiff, Nat.reduceLT, Int.reduceLT, Int.reduceLE, Int.reduceToNat, Int.reduceAdd, Int.reduceSub, Int.reduceNeg, Int.reduceMul, Int.reduceEq, ← Bool.decide_and, ← Bool.decide_or, ↓tq_n, ↓tq_e, ↓tq_r, ↓bq_n, ↓bq_e, ↓bq_r, ↓rq_n, ↓rq_r, ↓rq_e]
      refine awp_loop (fun k : Nat => [(0, .sl n1 l.length (sms l) u1), (1, .sl n2 c.length (prs c) u2), (5, .sptr [I x.1, I x.2]), (7, .sl nl o.length (trs o) tl), (9, .sl (decide (A.length = 0)) A.length (prs A) .unk), (11, I (l.getD v dS).id), (12, I i), (13, .ptr b13 0), (14, .ptr b14 0), (15, I k)]) (fun k => (G.put b13 (sel l v k)).put b14 (sel l w k)) (fun k => k ≤ l.length) (fun k => l.length - k) 0 (Nat.zero_le _) (GStep.forget (by repeat' first | exact EnvLe.nil _ | refine EnvLe.cons (AV.le.of_eq rfl) ?_ | refine EnvLe.cons (AV.le.undef _) ?_ | refine EnvLe.cons AV.le.unk ?_) (by repeat' first | exact AH.le.refl _ | assumption | (refine AH.le_put ?_ (by first | assumption | exact (AH.blk_put_ne _ _ (by assumption)).trans (by assumption) | exact AH.none_put (by assumption) | exact AH.none_put (AH.none_put (by assumption)) | (simp only [AH.blk_setTok, AH.tok_put] at *; first | assumption | exact AH.none_put (by assumption)))) | (refine AH.le_setTok ?_ (by first | assumption | exact (AH.blk_put_ne _ _ (by assumption)).trans (by assumption) | exact AH.none_put (by assumption) | exact AH.none_put (AH.none_put (by assumption)) | (simp only [AH.blk_setTok, AH.tok_put] at *; first | assumption | exact AH.none_put (by assumption)))) | (refine AH.le_putM ?_ (by first | assumption | exact (AH.mp_putM_ne _ _ (by assumption)).trans (by assumption) | (simp only [AH.mp_put, AH.mp_setTok] at *; assumption))))) fun k hk => .of_vg hm ?_
      by_cases h5 : k < l.length
      · have hc5 : (k : Int) < (l.length : Int) := by omega
        have s1 := sel_succ hck p2 h5
        have s2 := sel_succ hck hw1 h5
        have hsm := sms_drop h5
        obtain ⟨S1, hS1⟩ : ∃ S1, S1 = sel l v k := ⟨_, rfl⟩
        obtain ⟨S2, hS2⟩ : ∃ S2, S2 = sel l w k := ⟨_, rfl⟩
        have l1 : S1.length = 7 := by rw [hS1]; unfold sel; split <;> rfl
        have l2 : S2.length = 7 := by rw [hS2]; unfold sel; split <;> rfl
        rw [← hS1] at s1 ⊢
        rw [← hS2] at s2 ⊢
        have hbk : ((G.put b13 S1).put b14 S2).blk b13 = some S1 := (AH.blk_put_ne _ _ hnb.symm).trans (AH.blk_put _ _ _)
        have hcm := fun Z => put_comm G hnb S1 S2 Z
        by_cases c1 : (l.getD k dS).id = (l.getD v dS).id <;> by_cases c2 : (l.getD k dS).id = (l.getD w dS).id
        · rw [if_pos c1] at s1; rw [if_pos c2] at s2
          simp only [hc5, hc3, hdr, hsm, decide_eq_true c1, decide_eq_true c2, l1, l2, hbk, hcm, set7 l1, set7 l2, F_law_PrecedenceChains, g_law_PrecedenceChains, go_sem, reduceIte, Nat.reduceEqDiff, Nat.reduceAdd, Nat.reduceMul, Nat.reduceSub, reduceCtorEq, Nat.reduceLeDiff, Nat.reduceLT, Int.reduceLT, Int.reduceLE, Int.reduceToNat, Int.reduceAdd, Int.reduceSub, Int.reduceNeg, Int.reduceMul, Int.reduceEq, ← Bool.decide_and, ← Bool.decide_or, ↓tq_n, ↓tq_e, ↓tq_r, ↓bq_n, ↓bq_e, ↓bq_r, ↓rq_n, ↓rq_r, ↓rq_e]
          refine ⟨by rw [inR64]; omega, k + 1, by omega, by omega, ?_⟩
          rw [s1, s2]
          exact (GStep.forget (by repeat' first | exact EnvLe.nil _ | refine EnvLe.cons (AV.le.of_eq rfl) ?_ | refine EnvLe.cons (AV.le.undef _) ?_ | refine EnvLe.cons AV.le.unk ?_) (by repeat' first | exact AH.le.refl _ | assumption | (refine AH.le_put ?_ (by first | assumption | exact (AH.blk_put_ne _ _ (by assumption)).trans (by assumption) | exact AH.none_put (by assumption) | exact AH.none_put (AH.none_put (by assumption)) | (simp only [AH.blk_setTok, AH.tok_put] at *; first | assumption | exact AH.none_put (by assumption)))) | (refine AH.le_setTok ?_ (by first | assumption | exact (AH.blk_put_ne _ _ (by assumption)).trans (by assumption) | exact AH.none_put (by assumption) | exact AH.none_put (AH.none_put (by assumption)) | (simp only [AH.blk_setTok, AH.tok_put] at *; first | assumption | exact AH.none_put (by assumption)))) | (refine AH.le_putM ?_ (by first | assumption | exact (AH.mp_putM_ne _ _ (by assumption)).trans (by assumption) | (simp only [AH.mp_put, AH.mp_setTok] at *; assumption)))))
        · rw [if_pos c1] at s1; rw [if_neg c2] at s2
          simp only [hc5, hc3, hdr, hsm, decide_eq_true c1, decide_eq_false c2, l1, l2, hbk, hcm, set7 l1, set7 l2, F_law_PrecedenceChains, g_law_PrecedenceChains, go_sem, reduceIte, Nat.reduceEqDiff, Nat.reduceAdd, Nat.reduceMul, Nat.reduceSub, reduceCtorEq, Nat.reduceLeDiff, Nat.reduceLT, Int.reduceLT, Int.reduceLE, Int.reduceToNat, Int.reduceAdd, Int.reduceSub, Int.reduceNeg, Int.reduceMul, Int.reduceEq, ← Bool.decide_and, ← Bool.decide_or, ↓tq_n, ↓tq_e, ↓tq_r, ↓bq_n, ↓bq_e, ↓bq_r, ↓rq_n, ↓rq_r, ↓rq_e]
          refine ⟨by rw [inR64]; omega, k + 1, by omega, by omega, ?_⟩
          rw [s1, s2]
          exact (GStep.forget (by repeat' first | exact EnvLe.nil _ | refine EnvLe.cons (AV.le.of_eq rfl) ?_ | refine EnvLe.cons (AV.le.undef _) ?_ | refine EnvLe.cons AV.le.unk ?_) (by repeat' first | exact AH.le.refl _ | assumption | (refine AH.le_put ?_ (by first | assumption | exact (AH.blk_put_ne _ _ (by assumption)).trans (by assumption) | exact AH.none_put (by assumption) | exact AH.none_put (AH.none_put (by assumption)) | (simp only [AH.blk_setTok, AH.tok_put] at *; first | assumption | exact AH.none_put (by assumption)))) | (refine AH.le_setTok ?_ (by first | assumption | exact (AH.blk_put_ne _ _ (by assumption)).trans (by assumption) | exact AH.none_put (by assumption) | exact AH.none_put (AH.none_put (by assumption)) | (simp only [AH.blk_setTok, AH.tok_put] at *; first | assumption | exact AH.none_put (by assumption)))) | (refine AH.le_putM ?_ (by first | assumption | exact (AH.mp_putM_ne _ _ (by assumption)).trans (by assumption) | (simp only [AH.mp_put, AH.mp_setTok] at *; assumption)))))
        · rw [if_neg c1] at s1; rw [if_pos c2] at s2
          simp only [hc5, hc3, hdr, hsm, decide_eq_false c1, decide_eq_true c2, l1, l2, hbk, hcm, set7 l1, set7 l2, F_law_PrecedenceChains, g_law_PrecedenceChains, go_sem, reduceIte, Nat.reduceEqDiff, Nat.reduceAdd, Nat.reduceMul, Nat.reduceSub, reduceCtorEq, Nat.reduceLeDiff, Nat.reduceLT, Int.reduceLT, Int.reduceLE, Int.reduceToNat, Int.reduceAdd, Int.reduceSub, Int.reduceNeg, Int.reduceMul, Int.reduceEq, ← Bool.decide_and, ← Bool.decide_or, ↓tq_n, ↓tq_e, ↓tq_r, ↓bq_n, ↓bq_e, ↓bq_r, ↓rq_n, ↓rq_r, ↓rq_e]
          refine ⟨by rw [inR64]; omega, k + 1, by omega, by omega, ?_⟩
          rw [s1, s2]
          exact (GStep.forget (by repeat' first | exact EnvLe.nil _ | refine EnvLe.cons (AV.le.of_eq rfl) ?_ | refine EnvLe.cons (AV.le.undef _) ?_ | refine EnvLe.cons AV.le.unk ?_) (by repeat' first | exact AH.le.refl _ | assumption | (refine AH.le_put ?_ (by first | assumption | exact (AH.blk_put_ne _ _ (by assumption)).trans (by assumption) | exact AH.none_put (by assumption) | exact AH.none_put (AH.none_put (by assumption)) | (simp only [AH.blk_setTok, AH.tok_put] at *; first | assumption | exact AH.none_put (by assumption)))) | (refine AH.le_setTok ?_ (by first | assumption | exact (AH.blk_put_ne _ _ (by assumption)).trans (by assumption) | exact AH.none_put (by assumption) | exact AH.none_put (AH.none_put (by assumption)) | (simp only [AH.blk_setTok, AH.tok_put] at *; first | assumption | exact AH.none_put (by assumption)))) | (refine AH.le_putM ?_ (by first | assumption | exact (AH.mp_putM_ne _ _ (by assumption)).trans (by assumption) | (simp only [AH.mp_put, AH.mp_setTok] at *; assumption)))))
        · rw [if_neg c1] at s1; rw [if_neg c2] at s2
          simp only [hc5, hc3, hdr, hsm, decide_eq_false c1, decide_eq_false c2, l1, l2, hbk, hcm, set7 l1, set7 l2, F_law_PrecedenceChains, g_law_PrecedenceChains, go_sem, reduceIte, Nat.reduceEqDiff, Nat.reduceAdd, Nat.reduceMul, Nat.reduceSub, reduceCtorEq, Nat.reduceLeDiff, Nat.reduceLT, Int.reduceLT, Int.reduceLE, Int.reduceToNat, Int.reduceAdd, Int.reduceSub, Int.reduceNeg, Int.reduceMul, Int.reduceEq, ← Bool.decide_and, ← Bool.decide_or, ↓tq_n, ↓tq_e, ↓tq_r, ↓bq_n, ↓bq_e, ↓bq_r, ↓rq_n, ↓rq_r, ↓rq_e]
          refine ⟨by rw [inR64]; omega, k + 1, by omega, by omega, ?_⟩
          rw [s1, s2]
          exact (GStep.forget (by repeat' first | exact EnvLe.nil _ | refine EnvLe.cons (AV.le.of_eq rfl) ?_ | refine EnvLe.cons (AV.le.undef _) ?_ | refine EnvLe.cons AV.le.unk ?_) (by repeat' first | exact AH.le.refl _ | assumption | (refine AH.le_put ?_ (by first | assumption | exact (AH.blk_put_ne _ _ (by assumption)).trans (by assumption) | exact AH.none_put (by assumption) | exact AH.none_put (AH.none_put (by assumption)) | (simp only [AH.blk_setTok, AH.tok_put] at *; first | assumption | exact AH.none_put (by assumption)))) | (refine AH.le_setTok ?_ (by first | assumption | exact (AH.blk_put_ne _ _ (by assumption)).trans (by assumption) | exact AH.none_put (by assumption) | exact AH.none_put (AH.none_put (by assumption)) | (simp only [AH.blk_setTok, AH.tok_put] at *; first | assumption | exact AH.none_put (by assumption)))) | (refine AH.le_putM ?_ (by first | assumption | exact (AH.mp_putM_ne _ _ (by assumption)).trans (by assumption) | (simp only [AH.mp_put, AH.mp_setTok] at *; assumption)))))
      have h5 : k = l.length := by omega
      subst h5
      rw [sel_all p2, sel_all hw1]
      simp only [Spm.cs]
      have hbk : ((G.put b13 [I (l.getD v dS).id, I (l.getD v dS).obv, I (l.getD v dS).rev, I (l.getD v dS).os, I (l.getD v dS).rs, I (l.getD v dS).ax, I (l.getD v dS).wt]).put b14 [I (l.getD w dS).id, I (l.getD w dS).obv, I (l.getD w dS).rev, I (l.getD w dS).os, I (l.getD w dS).rs, I (l.getD w dS).ax, I (l.getD w dS).wt]).blk b13 = some [I (l.getD v dS).id, I (l.getD v dS).obv, I (l.getD v dS).rev, I (l.getD v dS).os, I (l.getD v dS).rs, I (l.getD v dS).ax, I (l.getD v dS).wt] := (AH.blk_put_ne _ _ hnb.symm).trans (AH.blk_put _ _ _)
      have hle2 : h'.le ((G.put b13 [I (l.getD v dS).id, I (l.getD v dS).obv, I (l.getD v dS).rev, I (l.getD v dS).os, I (l.getD v dS).rs, I (l.getD v dS).ax, I (l.getD v dS).wt]).put b14 [I (l.getD w dS).id, I (l.getD w dS).obv, I (l.getD w dS).rev, I (l.getD w dS).os, I (l.getD w dS).rs, I (l.getD w dS).ax, I (l.getD w dS).wt]) := AH.le_put (AH.le_put p4 (AH.none_of_le p4 hb13)) (AH.none_of_le p4 hb14')
      rcases hw5 with ⟨k0, k1, k2⟩ | ⟨k0, k1, k2⟩ | ⟨k0, k1⟩
      · simp only [hc3, hdr, k0, hbk, decide_eq_true k1, k2, F_law_PrecedenceChains, g_law_PrecedenceChains, go_sem, reduceIte, Nat.reduceEqDiff, Nat.reduceAdd, Nat.reduceMul, Nat.reduceSub, reduceCtorEq, Nat.reduceLeDiff, Nat.reduceLT, Int.reduceLT, Int.reduceLE, Int.reduceToNat, Int.reduceAdd, Int.reduceSub, Int.reduceNeg, Int.reduceMul, Int.reduceEq, ← Bool.decide_and, ← Bool.decide_or, ↓tq_n, ↓tq_e, ↓tq_r, ↓bq_n, ↓bq_e, ↓bq_r, ↓rq_n, ↓rq_r, ↓rq_e]
        exact ⟨by rw [inR64]; omega, (i + 1, w, _), ⟨by simp only; omega, hw1, hw4, hle2⟩, by simp only; omega, (GStep.forget (by repeat' first | exact EnvLe.nil _ | refine EnvLe.cons (AV.le.of_eq rfl) ?_ | refine EnvLe.cons (AV.le.undef _) ?_ | refine EnvLe.cons AV.le.unk ?_) (by repeat' first | exact AH.le.refl _ | assumption | (refine AH.le_put ?_ (by first | assumption | exact (AH.blk_put_ne _ _ (by assumption)).trans (by assumption) | exact AH.none_put (by assumption) | exact AH.none_put (AH.none_put (by assumption)) | (simp only [AH.blk_setTok, AH.tok_put] at *; first | assumption | exact AH.none_put (by assumption)))) | (refine AH.le_setTok ?_ (by first | assumption | exact (AH.blk_put_ne _ _ (by assumption)).trans (by assumption) | exact AH.none_put (by assumption) | exact AH.none_put (AH.none_put (by assumption)) | (simp only [AH.blk_setTok, AH.tok_put] at *; first | assumption | exact AH.none_put (by assumption)))) | (refine AH.le_putM ?_ (by first | assumption | exact (AH.mp_putM_ne _ _ (by assumption)).trans (by assumption) | (simp only [AH.mp_put, AH.mp_setTok] at *; assumption)))))⟩
      · simp only [hc3, hdr, k0, hbk, decide_eq_true k1, k2, F_law_PrecedenceChains, g_law_PrecedenceChains, go_sem, reduceIte, Nat.reduceEqDiff, Nat.reduceAdd, Nat.reduceMul, Nat.reduceSub, reduceCtorEq, Nat.reduceLeDiff, Nat.reduceLT, Int.reduceLT, Int.reduceLE, Int.reduceToNat, Int.reduceAdd, Int.reduceSub, Int.reduceNeg, Int.reduceMul, Int.reduceEq, ← Bool.decide_and, ← Bool.decide_or, ↓tq_n, ↓tq_e, ↓tq_r, ↓bq_n, ↓bq_e, ↓bq_r, ↓rq_n, ↓rq_r, ↓rq_e]
        exact ⟨by rw [inR64]; omega, (i + 1, w, _), ⟨by simp only; omega, hw1, hw4, hle2⟩, by simp only; omega, (GStep.forget (by repeat' first | exact EnvLe.nil _ | refine EnvLe.cons (AV.le.of_eq rfl) ?_ | refine EnvLe.cons (AV.le.undef _) ?_ | refine EnvLe.cons AV.le.unk ?_) (by repeat' first | exact AH.le.refl _ | assumption | (refine AH.le_put ?_ (by first | assumption | exact (AH.blk_put_ne _ _ (by assumption)).trans (by assumption) | exact AH.none_put (by assumption) | exact AH.none_put (AH.none_put (by assumption)) | (simp only [AH.blk_setTok, AH.tok_put] at *; first | assumption | exact AH.none_put (by assumption)))) | (refine AH.le_setTok ?_ (by first | assumption | exact (AH.blk_put_ne _ _ (by assumption)).trans (by assumption) | exact AH.none_put (by assumption) | exact AH.none_put (AH.none_put (by assumption)) | (simp only [AH.blk_setTok, AH.tok_put] at *; first | assumption | exact AH.none_put (by assumption)))) | (refine AH.le_putM ?_ (by first | assumption | exact (AH.mp_putM_ne _ _ (by assumption)).trans (by assumption) | (simp only [AH.mp_put, AH.mp_setTok] at *; assumption)))))⟩
      · simp only [hc3, hdr, k0, hbk, F_law_PrecedenceChains, g_law_PrecedenceChains, go_sem, reduceIte, Nat.reduceEqDiff, Nat.reduceAdd, Nat.reduceMul, Nat.reduceSub, reduceCtorEq, Nat.reduceLeDiff, Nat.reduceLT, Int.reduceLT, Int.reduceLE, Int.reduceToNat, Int.reduceAdd, Int.reduceSub, Int.reduceNeg, Int.reduceMul, Int.reduceEq, ← Bool.decide_and, ← Bool.decide_or, ↓tq_n, ↓tq_e, ↓tq_r, ↓bq_n, ↓bq_e, ↓bq_r, ↓rq_n, ↓rq_r, ↓rq_e]
        refine CallG.mk (r_law_has n2 c u2 _ _ _) ?_
        rw [decide_eq_true k1]
        simp only [hc3, hdr, F_law_PrecedenceChains, g_law_PrecedenceChains, go_sem, reduceIte, Nat.reduceEqDiff, Nat.reduceAdd, Nat.reduceMul, Nat.reduceSub, reduceCtorEq, Nat.reduceLeDiff, Nat.reduceLT, Int.reduceLT, Int.reduceLE, Int.reduceToNat, Int.reduceAdd, Int.reduceSub, Int.reduceNeg, Int.reduceMul, Int.reduceEq, ← Bool.decide_and, ← Bool.decide_or, ↓tq_n, ↓tq_e, ↓tq_r, ↓bq_n, ↓bq_e, ↓bq_r, ↓rq_n, ↓rq_r, ↓rq_e]
        exact ⟨by rw [inR64]; omega, (i + 1, w, _), ⟨by simp only; omega, hw1, hw4, hle2⟩, by simp only; omega, (GStep.forget (by repeat' first | exact EnvLe.nil _ | refine EnvLe.cons (AV.le.of_eq rfl) ?_ | refine EnvLe.cons (AV.le.undef _) ?_ | refine EnvLe.cons AV.le.unk ?_) (by repeat' first | exact AH.le.refl _ | assumption | (refine AH.le_put ?_ (by first | assumption | exact (AH.blk_put_ne _ _ (by assumption)).trans (by assumption) | exact AH.none_put (by assumption) | exact AH.none_put (AH.none_put (by assumption)) | (simp only [AH.blk_setTok, AH.tok_put] at *; first | assumption | exact AH.none_put (by assumption)))) | (refine AH.le_setTok ?_ (by first | assumption | exact (AH.blk_put_ne _ _ (by assumption)).trans (by assumption) | exact AH.none_put (by assumption) | exact AH.none_put (AH.none_put (by assumption)) | (simp only [AH.blk_setTok, AH.tok_put] at *; first | assumption | exact AH.none_put (by assumption)))) | (refine AH.le_putM ?_ (by first | assumption | exact (AH.mp_putM_ne _ _ (by assumption)).trans (by assumption) | (simp only [AH.mp_put, AH.mp_setTok] at *; assumption)))))⟩
    have h3 : i = o.length := by omega
    subst h3
    rw [List.drop_length] at p3
    have hvj : (v : Int) = j0 := p3
    have hvj : v = j0 := by omega
    subst hvj
    have a1 : (0 : Int) < (o.length : Int) := by omega
    have a2 : (o.length : Int) < (l.length : Int) := by omega
    simp only [hj0, a1, a2, z02, z12, F_law_PrecedenceChains, g_law_PrecedenceChains, go_sem, reduceIte, Nat.reduceEqDiff, Nat.reduceAdd, Nat.reduceMul, Nat.reduceSub, reduceCtorEq, Nat.reduceLeDiff, Nat.reduceLT, Int.reduceLT, Int.reduceLE, Int.reduceToNat, Int.reduceAdd, Int.reduceSub, Int.reduceNeg, Int.reduceMul, Int.reduceEq, ← Bool.decide_and, ← Bool.decide_or, ↓tq_n, ↓tq_e, ↓tq_r, ↓bq_n, ↓bq_e, ↓bq_r, ↓rq_n, ↓rq_r, ↓rq_e]
    refine CallG.mk (r_law_has _ A .unk x.1 x.2 _) ?_
    rw [decide_eq_true hmem]
    simp only [z02, z12, F_law_PrecedenceChains, g_law_PrecedenceChains, go_sem, reduceIte, Nat.reduceEqDiff, Nat.reduceAdd, Nat.reduceMul, Nat.reduceSub, reduceCtorEq, Nat.reduceLeDiff, Nat.reduceLT, Int.reduceLT, Int.reduceLE, Int.reduceToNat, Int.reduceAdd, Int.reduceSub, Int.reduceNeg, Int.reduceMul, Int.reduceEq, ← Bool.decide_and, ← Bool.decide_or, ↓tq_n, ↓tq_e, ↓tq_r, ↓bq_n, ↓bq_e, ↓bq_r, ↓rq_n, ↓rq_r, ↓rq_e]
    exact ret_hb p4 rfl
end Go.Proofs.Ytndcbompcnlhmaa
