/- The statement AttributionOrders as a call. No condition. -/
import Derived.Test.YtemfmnjhhdeedaaD20
namespace Go.Proofs.Ytemfmnjhhdeedaa
open Go Go.Abs
set_option linter.unusedSimpArgs false
set_option linter.unusedVariables false
set_option maxRecDepth 20000

theorem leV_no {n : Int} {a : List (Int × Int)} {w : List Int} (h : ¬ chkE n a w = 0) : leV n a w = .tup [.sl true 0 [] .full, I 0, I (chkE n a w)] := by unfold leV; rw [if_neg h]
theorem orV_no {n : Int} {a : List (Int × Int)} {w : List Int} (h : ¬ chkE n a w = 0) : orV n a w = .tup [.sl true 0 [] .full, I 0, I (chkE n a w)] := by unfold orV; rw [if_neg h]
theorem leV_yes {n : Nat} {a : List (Int × Int)} {w : List Int} (h : chkE n a w = 0) : ∃ nl q, leV n a w = .tup [.sl nl (nats (Bl a q)).length (i64s (nats (Bl a q))) .unk, I (tot n a w), I 0] ∧ Opt n a w q := by
  obtain ⟨⟨q, q1, q2⟩, _⟩ := lsK_first (n := n) (okc_w1 (chk_ok.1 h))
  refine ⟨decide ((nats (Bl a q)).length = 0), q, ?_, q1⟩
  unfold leV
  rw [if_pos h, Int.toNat_natCast, q2]
  rfl
theorem orV_yes {n : Nat} {a : List (Int × Int)} {w : List Int} (h : chkE n a w = 0) : ∃ nl, orV n a w = .tup [.sl nl (nats (gO n a w n [])).length (i64s (nats (gO n a w n []))) .unk, I (tot n a w), I 0] ∧ Opt n a w (gO n a w n []) := by
  obtain ⟨s, h1, h2, h3, h4, _⟩ := sF_top (n := n) (okc_w1 (chk_ok.1 h)).ok
  refine ⟨decide ((nats (gO n a w n [])).length = 0), ?_, h3, h4, h2⟩
  unfold orV
  rw [if_pos h, Int.toNat_natCast]
  rfl
theorem coV_Bl {n : Nat} {a : List (Int × Int)} {w : List Int} (h : chkE n a w = 0) (q : List Nat) : coV n a w (nats (Bl a q)) = .tup [I (bc a w q), I 0] := by
  unfold coV
  rw [if_pos h, if_pos (Bl_ix a q), cs_Bl]
theorem baV_ok {n : Nat} {a : List (Int × Int)} {w : List Int} (h : chkE n a w = 0) {q : List Nat} (hq : Pre n q) (hl : q.length = n) : baV n a w (nats q) = .tup [I (bc a w q), I 0] := by
  unfold baV
  rw [if_pos h, Int.toNat_natCast, if_pos (prm_of hq hl), nats_toNat]
set_option maxHeartbeats 4000000 in
theorem r_law_AttributionOrders (c : Cs) (n4 : Bool) (o : List Int) (u4 : Tail) (h : AH) : RCall Try.prog n_law_AttributionOrders [.st c.cs, .sl n4 o.length (i64s o) u4] h (.bool true) := by
  obtain ⟨n, n1, a, u1, n2, w, u2⟩ := c
  simp only [Cs.cs]
  refine RCall.of hm cF_law_AttributionOrders (by simp [g_law_AttributionOrders]) fun hw h' hl => ?_
  simp only [F_law_AttributionOrders, g_law_AttributionOrders, go_sem, reduceIte, Nat.reduceEqDiff, Nat.reduceAdd, Nat.reduceMul, Nat.reduceSub, reduceCtorEq, Nat.reduceLeDiff, Nat.reduceLT, Int.reduceLT, Int.reduceLE, Int.reduceToNat, Int.reduceAdd, Int.reduceSub, Int.reduceNeg, Int.reduceMul, Int.reduceEq, ← Bool.decide_and, ← Bool.decide_or, ↓tq_n, ↓tq_e, ↓tq_r, ↓bq_n, ↓bq_e, ↓bq_r, ↓rq_n, ↓rq_r, ↓rq_e]
  refine CallG.mk (r_law_awake _) ?_
  simp only [F_law_AttributionOrders, g_law_AttributionOrders, go_sem, reduceIte, Nat.reduceEqDiff, Nat.reduceAdd, Nat.reduceMul, Nat.reduceSub, reduceCtorEq, Nat.reduceLeDiff, Nat.reduceLT, Int.reduceLT, Int.reduceLE, Int.reduceToNat, Int.reduceAdd, Int.reduceSub, Int.reduceNeg, Int.reduceMul, Int.reduceEq, ← Bool.decide_and, ← Bool.decide_or, ↓tq_n, ↓tq_e, ↓tq_r, ↓bq_n, ↓bq_e, ↓bq_r, ↓rq_n, ↓rq_r, ↓rq_e]
  refine CallG.mk (r_law_few n n1 a u1 n2 w u2 _) ?_
  cases hf : fewC n a w with
  | false =>
    simp only [F_law_AttributionOrders, g_law_AttributionOrders, go_sem, reduceIte, Nat.reduceEqDiff, Nat.reduceAdd, Nat.reduceMul, Nat.reduceSub, reduceCtorEq, Nat.reduceLeDiff, Nat.reduceLT, Int.reduceLT, Int.reduceLE, Int.reduceToNat, Int.reduceAdd, Int.reduceSub, Int.reduceNeg, Int.reduceMul, Int.reduceEq, ← Bool.decide_and, ← Bool.decide_or, ↓tq_n, ↓tq_e, ↓tq_r, ↓bq_n, ↓bq_e, ↓bq_r, ↓rq_n, ↓rq_r, ↓rq_e]
    refine CallG.mk (r_law_awake _) ?_
    simp only [F_law_AttributionOrders, g_law_AttributionOrders, go_sem, reduceIte, Nat.reduceEqDiff, Nat.reduceAdd, Nat.reduceMul, Nat.reduceSub, reduceCtorEq, Nat.reduceLeDiff, Nat.reduceLT, Int.reduceLT, Int.reduceLE, Int.reduceToNat, Int.reduceAdd, Int.reduceSub, Int.reduceNeg, Int.reduceMul, Int.reduceEq, ← Bool.decide_and, ← Bool.decide_or, ↓tq_n, ↓tq_e, ↓tq_r, ↓bq_n, ↓bq_e, ↓bq_r, ↓rq_n, ↓rq_r, ↓rq_e]
    exact ret_ok rfl
  | true =>
    by_cases c2 : (30 : Int) < (o.length : Int)
    · simp only [c2, F_law_AttributionOrders, g_law_AttributionOrders, go_sem, reduceIte, Nat.reduceEqDiff, Nat.reduceAdd, Nat.reduceMul, Nat.reduceSub, reduceCtorEq, Nat.reduceLeDiff, Nat.reduceLT, Int.reduceLT, Int.reduceLE, Int.reduceToNat, Int.reduceAdd, Int.reduceSub, Int.reduceNeg, Int.reduceMul, Int.reduceEq, ← Bool.decide_and, ← Bool.decide_or, ↓tq_n, ↓tq_e, ↓tq_r, ↓bq_n, ↓bq_e, ↓bq_r, ↓rq_n, ↓rq_r, ↓rq_e]
      refine CallG.mk (r_law_awake _) ?_
      simp only [F_law_AttributionOrders, g_law_AttributionOrders, go_sem, reduceIte, Nat.reduceEqDiff, Nat.reduceAdd, Nat.reduceMul, Nat.reduceSub, reduceCtorEq, Nat.reduceLeDiff, Nat.reduceLT, Int.reduceLT, Int.reduceLE, Int.reduceToNat, Int.reduceAdd, Int.reduceSub, Int.reduceNeg, Int.reduceMul, Int.reduceEq, ← Bool.decide_and, ← Bool.decide_or, ↓tq_n, ↓tq_e, ↓tq_r, ↓bq_n, ↓bq_e, ↓bq_r, ↓rq_n, ↓rq_r, ↓rq_e]
      exact ret_ok rfl
    have hol : o.length ≤ 30 := by omega
    simp only [c2, F_law_AttributionOrders, g_law_AttributionOrders, go_sem, reduceIte, Nat.reduceEqDiff, Nat.reduceAdd, Nat.reduceMul, Nat.reduceSub, reduceCtorEq, Nat.reduceLeDiff, Nat.reduceLT, Int.reduceLT, Int.reduceLE, Int.reduceToNat, Int.reduceAdd, Int.reduceSub, Int.reduceNeg, Int.reduceMul, Int.reduceEq, ← Bool.decide_and, ← Bool.decide_or, ↓tq_n, ↓tq_e, ↓tq_r, ↓bq_n, ↓bq_e, ↓bq_r, ↓rq_n, ↓rq_r, ↓rq_e]
    refine CallG.mk (r_attribution_Least n n1 a u1 n2 w u2 _) ?_
    by_cases c1 : chkE n a w = 0
    case neg =>
      have hz : ((0 : Nat) : Int) = 0 := by omega
      obtain ⟨y1, y2, e2⟩ := baV_form n a w o
      rw [leV_no c1]
      simp only [F_law_AttributionOrders, g_law_AttributionOrders, go_sem, reduceIte, Nat.reduceEqDiff, Nat.reduceAdd, Nat.reduceMul, Nat.reduceSub, reduceCtorEq, Nat.reduceLeDiff, Nat.reduceLT, Int.reduceLT, Int.reduceLE, Int.reduceToNat, Int.reduceAdd, Int.reduceSub, Int.reduceNeg, Int.reduceMul, Int.reduceEq, ← Bool.decide_and, ← Bool.decide_or, ↓tq_n, ↓tq_e, ↓tq_r, ↓bq_n, ↓bq_e, ↓bq_r, ↓rq_n, ↓rq_r, ↓rq_e]
      refine CallG.mk (r_attribution_Ordered n n1 a u1 n2 w u2 _) ?_
      rw [orV_no c1]
      simp only [F_law_AttributionOrders, g_law_AttributionOrders, go_sem, reduceIte, Nat.reduceEqDiff, Nat.reduceAdd, Nat.reduceMul, Nat.reduceSub, reduceCtorEq, Nat.reduceLeDiff, Nat.reduceLT, Int.reduceLT, Int.reduceLE, Int.reduceToNat, Int.reduceAdd, Int.reduceSub, Int.reduceNeg, Int.reduceMul, Int.reduceEq, ← Bool.decide_and, ← Bool.decide_or, ↓tq_n, ↓tq_e, ↓tq_r, ↓bq_n, ↓bq_e, ↓bq_r, ↓rq_n, ↓rq_r, ↓rq_e]
      refine CallG.mk (r_attribution_Back n n1 a u1 n2 w u2 n4 o u4 (by omega) _) ?_
      rw [e2]
      simp only [c1, hz, F_law_AttributionOrders, g_law_AttributionOrders, go_sem, reduceIte, Nat.reduceEqDiff, Nat.reduceAdd, Nat.reduceMul, Nat.reduceSub, reduceCtorEq, Nat.reduceLeDiff, Nat.reduceLT, Int.reduceLT, Int.reduceLE, Int.reduceToNat, Int.reduceAdd, Int.reduceSub, Int.reduceNeg, Int.reduceMul, Int.reduceEq, ← Bool.decide_and, ← Bool.decide_or, ↓tq_n, ↓tq_e, ↓tq_r, ↓bq_n, ↓bq_e, ↓bq_r, ↓rq_n, ↓rq_r, ↓rq_e]
      exact ret_ok rfl
    have hok := chk_ok.1 c1
    obtain ⟨m, rfl⟩ := ev_nat hok.2.2.1
    have hw1 := okc_w1 hok
    have hal := hok.2.1
    obtain ⟨xl, q, e1, q1⟩ := leV_yes c1
    obtain ⟨yl, e2, p1⟩ := orV_yes c1
    rw [e1]
    simp only [F_law_AttributionOrders, g_law_AttributionOrders, go_sem, reduceIte, Nat.reduceEqDiff, Nat.reduceAdd, Nat.reduceMul, Nat.reduceSub, reduceCtorEq, Nat.reduceLeDiff, Nat.reduceLT, Int.reduceLT, Int.reduceLE, Int.reduceToNat, Int.reduceAdd, Int.reduceSub, Int.reduceNeg, Int.reduceMul, Int.reduceEq, ← Bool.decide_and, ← Bool.decide_or, ↓tq_n, ↓tq_e, ↓tq_r, ↓bq_n, ↓bq_e, ↓bq_r, ↓rq_n, ↓rq_r, ↓rq_e]
    refine CallG.mk (r_attribution_Ordered m n1 a u1 n2 w u2 _) ?_
    rw [e2]
    simp only [F_law_AttributionOrders, g_law_AttributionOrders, go_sem, reduceIte, Nat.reduceEqDiff, Nat.reduceAdd, Nat.reduceMul, Nat.reduceSub, reduceCtorEq, Nat.reduceLeDiff, Nat.reduceLT, Int.reduceLT, Int.reduceLE, Int.reduceToNat, Int.reduceAdd, Int.reduceSub, Int.reduceNeg, Int.reduceMul, Int.reduceEq, ← Bool.decide_and, ← Bool.decide_or, ↓tq_n, ↓tq_e, ↓tq_r, ↓bq_n, ↓bq_e, ↓bq_r, ↓rq_n, ↓rq_r, ↓rq_e]
    refine CallG.mk (r_attribution_Back m n1 a u1 n2 w u2 n4 o u4 (by omega) _) ?_
    have hco := coV_Bl c1 q
    rw [q1.2.2] at hco
    have hgl : (gO m a w m []).length = m := p1.2.1
    have hba := baV_ok c1 p1.1 p1.2.1
    rw [p1.2.2] at hba
    have hrp := bl_rp hok q1.1 q1.2.1
    have hm9 : m ≤ 9 := by have := hok.1; omega
    have hgl2 : (nats (gO m a w m [])).length ≤ 1000 := by rw [nats_len]; omega
    by_cases hp : Prm o m
    case neg =>
      have hb0 : baV m a w o = .tup [I 0, I 2] := by unfold baV; rw [if_pos c1, Int.toNat_natCast, if_neg hp]
      rw [hb0]
      simp only [F_law_AttributionOrders, g_law_AttributionOrders, go_sem, reduceIte, Nat.reduceEqDiff, Nat.reduceAdd, Nat.reduceMul, Nat.reduceSub, reduceCtorEq, Nat.reduceLeDiff, Nat.reduceLT, Int.reduceLT, Int.reduceLE, Int.reduceToNat, Int.reduceAdd, Int.reduceSub, Int.reduceNeg, Int.reduceMul, Int.reduceEq, ← Bool.decide_and, ← Bool.decide_or, ↓tq_n, ↓tq_e, ↓tq_r, ↓bq_n, ↓bq_e, ↓bq_r, ↓rq_n, ↓rq_r, ↓rq_e]
      refine CallG.mk (r_attribution_Cost m n1 a u1 n2 w u2 xl (nats (Bl a q)) .unk _) ?_
      rw [hco]
      simp only [F_law_AttributionOrders, g_law_AttributionOrders, go_sem, reduceIte, Nat.reduceEqDiff, Nat.reduceAdd, Nat.reduceMul, Nat.reduceSub, reduceCtorEq, Nat.reduceLeDiff, Nat.reduceLT, Int.reduceLT, Int.reduceLE, Int.reduceToNat, Int.reduceAdd, Int.reduceSub, Int.reduceNeg, Int.reduceMul, Int.reduceEq, ← Bool.decide_and, ← Bool.decide_or, ↓tq_n, ↓tq_e, ↓tq_r, ↓bq_n, ↓bq_e, ↓bq_r, ↓rq_n, ↓rq_r, ↓rq_e]
      refine CallG.mk (r_attribution_Back m n1 a u1 n2 w u2 yl (nats (gO m a w m [])) .unk hgl2 _) ?_
      rw [hba]
      simp only [F_law_AttributionOrders, g_law_AttributionOrders, go_sem, reduceIte, Nat.reduceEqDiff, Nat.reduceAdd, Nat.reduceMul, Nat.reduceSub, reduceCtorEq, Nat.reduceLeDiff, Nat.reduceLT, Int.reduceLT, Int.reduceLE, Int.reduceToNat, Int.reduceAdd, Int.reduceSub, Int.reduceNeg, Int.reduceMul, Int.reduceEq, ← Bool.decide_and, ← Bool.decide_or, ↓tq_n, ↓tq_e, ↓tq_r, ↓bq_n, ↓bq_e, ↓bq_r, ↓rq_n, ↓rq_r, ↓rq_e]
      refine CallG.mk (r_attribution_Repairs m n1 a u1 n2 w u2 xl (nats (Bl a q)) .unk _) ?_
      rw [hrp]
      simp only [F_law_AttributionOrders, g_law_AttributionOrders, go_sem, reduceIte, Nat.reduceEqDiff, Nat.reduceAdd, Nat.reduceMul, Nat.reduceSub, reduceCtorEq, Nat.reduceLeDiff, Nat.reduceLT, Int.reduceLT, Int.reduceLE, Int.reduceToNat, Int.reduceAdd, Int.reduceSub, Int.reduceNeg, Int.reduceMul, Int.reduceEq, ← Bool.decide_and, ← Bool.decide_or, ↓tq_n, ↓tq_e, ↓tq_r, ↓bq_n, ↓bq_e, ↓bq_r, ↓rq_n, ↓rq_r, ↓rq_e]
      exact ret_ok rfl
    obtain ⟨o1, o2, o3⟩ := prm_pre hp
    have hb0 : baV m a w o = .tup [I (bc a w (o.map Int.toNat)), I 0] := by unfold baV; rw [if_pos c1, Int.toNat_natCast, if_pos hp]
    have hbF : brF a o a.length = Bl a (o.map Int.toNat) := by rw [o1, nats_toNat]; exact brF_eq hok.2.2.1 o2 o3
    have hge := (tot_min (n := m) hw1.ok).2.1 _ o2 o3
    have hco2 := coV_Bl c1 (o.map Int.toNat)
    have hrp2 := bl_rp hok o2 o3
    rw [hb0]
    generalize bc a w (o.map Int.toNat) = K at hge hco2 ⊢
    simp only [F_law_AttributionOrders, g_law_AttributionOrders, go_sem, reduceIte, Nat.reduceEqDiff, Nat.reduceAdd, Nat.reduceMul, Nat.reduceSub, reduceCtorEq, Nat.reduceLeDiff, Nat.reduceLT, Int.reduceLT, Int.reduceLE, Int.reduceToNat, Int.reduceAdd, Int.reduceSub, Int.reduceNeg, Int.reduceMul, Int.reduceEq, ← Bool.decide_and, ← Bool.decide_or, ↓tq_n, ↓tq_e, ↓tq_r, ↓bq_n, ↓bq_e, ↓bq_r, ↓rq_n, ↓rq_r, ↓rq_e]
    refine CallG.mk (r_attribution_Cost m n1 a u1 n2 w u2 xl (nats (Bl a q)) .unk _) ?_
    rw [hco]
    simp only [F_law_AttributionOrders, g_law_AttributionOrders, go_sem, reduceIte, Nat.reduceEqDiff, Nat.reduceAdd, Nat.reduceMul, Nat.reduceSub, reduceCtorEq, Nat.reduceLeDiff, Nat.reduceLT, Int.reduceLT, Int.reduceLE, Int.reduceToNat, Int.reduceAdd, Int.reduceSub, Int.reduceNeg, Int.reduceMul, Int.reduceEq, ← Bool.decide_and, ← Bool.decide_or, ↓tq_n, ↓tq_e, ↓tq_r, ↓bq_n, ↓bq_e, ↓bq_r, ↓rq_n, ↓rq_r, ↓rq_e]
    refine CallG.mk (r_attribution_Back m n1 a u1 n2 w u2 yl (nats (gO m a w m [])) .unk hgl2 _) ?_
    rw [hba]
    simp only [F_law_AttributionOrders, g_law_AttributionOrders, go_sem, reduceIte, Nat.reduceEqDiff, Nat.reduceAdd, Nat.reduceMul, Nat.reduceSub, reduceCtorEq, Nat.reduceLeDiff, Nat.reduceLT, Int.reduceLT, Int.reduceLE, Int.reduceToNat, Int.reduceAdd, Int.reduceSub, Int.reduceNeg, Int.reduceMul, Int.reduceEq, ← Bool.decide_and, ← Bool.decide_or, ↓tq_n, ↓tq_e, ↓tq_r, ↓bq_n, ↓bq_e, ↓bq_r, ↓rq_n, ↓rq_r, ↓rq_e]
    refine CallG.mk (r_attribution_Repairs m n1 a u1 n2 w u2 xl (nats (Bl a q)) .unk _) ?_
    rw [hrp]
    simp only [F_law_AttributionOrders, g_law_AttributionOrders, go_sem, reduceIte, Nat.reduceEqDiff, Nat.reduceAdd, Nat.reduceMul, Nat.reduceSub, reduceCtorEq, Nat.reduceLeDiff, Nat.reduceLT, Int.reduceLT, Int.reduceLE, Int.reduceToNat, Int.reduceAdd, Int.reduceSub, Int.reduceNeg, Int.reduceMul, Int.reduceEq, ← Bool.decide_and, ← Bool.decide_or, ↓tq_n, ↓tq_e, ↓tq_r, ↓bq_n, ↓bq_e, ↓bq_r, ↓rq_n, ↓rq_r, ↓rq_e]
    refine awp_tok 17 1 (nl := true) (n := 0) (cs := []) rfl fun t ht => ?_
    refine awp_loop (fun i : Nat => [(1, .sl n4 o.length (i64s o) u4), (2, .sptr [I m, .sl n1 a.length (prs a) u1, .sl n2 w.length (i64s w) u2]), (6, I (tot m a w)), (11, I K), (17, gl (i64s (nats (brF a o i))) (nats (brF a o i)).length (.tok t)), (18, I i)]) (fun i => h'.setTok t (nats (brF a o i)).length 1) (fun i => i ≤ a.length) (fun i => a.length - i) 0 (Nat.zero_le _) (GStep.forget (by repeat' first | exact EnvLe.nil _ | refine EnvLe.cons (AV.le.of_eq rfl) ?_ | refine EnvLe.cons (AV.le.undef _) ?_ | refine EnvLe.cons AV.le.unk ?_) (by repeat' first | exact AH.le.refl _ | assumption | (refine AH.le_put ?_ (by first | assumption | exact (AH.blk_put_ne _ _ (by assumption)).trans (by assumption) | exact AH.none_put (by assumption) | exact AH.none_put (AH.none_put (by assumption)) | (simp only [AH.blk_setTok, AH.tok_put] at *; first | assumption | exact AH.none_put (by assumption)))) | (refine AH.le_setTok ?_ (by first | assumption | exact (AH.blk_put_ne _ _ (by assumption)).trans (by assumption) | exact AH.none_put (by assumption) | exact AH.none_put (AH.none_put (by assumption)) | (simp only [AH.blk_setTok, AH.tok_put] at *; first | assumption | exact AH.none_put (by assumption)))) | (refine AH.le_putM ?_ (by first | assumption | exact (AH.mp_putM_ne _ _ (by assumption)).trans (by assumption) | (simp only [AH.mp_put, AH.mp_setTok] at *; assumption))))) fun i hi => .of_vg hm ?_
    by_cases h3 : i < a.length
    case neg =>
      have h3 : i = a.length := by omega
      subst h3
      rw [hbF]
      simp only [F_law_AttributionOrders, g_law_AttributionOrders, go_sem, reduceIte, Nat.reduceEqDiff, Nat.reduceAdd, Nat.reduceMul, Nat.reduceSub, reduceCtorEq, Nat.reduceLeDiff, Nat.reduceLT, Int.reduceLT, Int.reduceLE, Int.reduceToNat, Int.reduceAdd, Int.reduceSub, Int.reduceNeg, Int.reduceMul, Int.reduceEq, ← Bool.decide_and, ← Bool.decide_or, ↓tq_n, ↓tq_e, ↓tq_r, ↓bq_n, ↓bq_e, ↓bq_r, ↓rq_n, ↓rq_r, ↓rq_e]
      have hgn := gl_nats (Bl a (o.map Int.toNat)) (.tok t)
      refine CallG.mk (r_attribution_Cost m n1 a u1 n2 w u2 _ (nats (Bl a (o.map Int.toNat))) (.tok t) _) ?_
      rw [hco2]
      have hge' : tot m a w ≤ K := hge
      simp only [hge', F_law_AttributionOrders, g_law_AttributionOrders, go_sem, reduceIte, Nat.reduceEqDiff, Nat.reduceAdd, Nat.reduceMul, Nat.reduceSub, reduceCtorEq, Nat.reduceLeDiff, Nat.reduceLT, Int.reduceLT, Int.reduceLE, Int.reduceToNat, Int.reduceAdd, Int.reduceSub, Int.reduceNeg, Int.reduceMul, Int.reduceEq, ← Bool.decide_and, ← Bool.decide_or, ↓tq_n, ↓tq_e, ↓tq_r, ↓bq_n, ↓bq_e, ↓bq_r, ↓rq_n, ↓rq_r, ↓rq_e]
      refine CallG.mk (r_attribution_Repairs m n1 a u1 n2 w u2 _ (nats (Bl a (o.map Int.toNat))) (.tok t) _) ?_
      rw [hrp2]
      simp only [F_law_AttributionOrders, g_law_AttributionOrders, go_sem, reduceIte, Nat.reduceEqDiff, Nat.reduceAdd, Nat.reduceMul, Nat.reduceSub, reduceCtorEq, Nat.reduceLeDiff, Nat.reduceLT, Int.reduceLT, Int.reduceLE, Int.reduceToNat, Int.reduceAdd, Int.reduceSub, Int.reduceNeg, Int.reduceMul, Int.reduceEq, ← Bool.decide_and, ← Bool.decide_or, ↓tq_n, ↓tq_e, ↓tq_r, ↓bq_n, ↓bq_e, ↓bq_r, ↓rq_n, ↓rq_r, ↓rq_e]
      exact ret_hb (AH.le_setTok (AH.le.refl _) ht) rfl
    have hc : (i : Int) < (a.length : Int) := by omega
    have hsucc := brF_succ a o i
    have hrl := brF_len a o i
    have hnl := nats_len (brF a o i)
    simp only [hc, F_law_AttributionOrders, g_law_AttributionOrders, go_sem, reduceIte, Nat.reduceEqDiff, Nat.reduceAdd, Nat.reduceMul, Nat.reduceSub, reduceCtorEq, Nat.reduceLeDiff, Nat.reduceLT, Int.reduceLT, Int.reduceLE, Int.reduceToNat, Int.reduceAdd, Int.reduceSub, Int.reduceNeg, Int.reduceMul, Int.reduceEq, ← Bool.decide_and, ← Bool.decide_or, ↓tq_n, ↓tq_e, ↓tq_r, ↓bq_n, ↓bq_e, ↓bq_r, ↓rq_n, ↓rq_r, ↓rq_e]
    refine awp_loop (fun k : Nat => [(1, .sl n4 o.length (i64s o) u4), (2, .sptr [I m, .sl n1 a.length (prs a) u1, .sl n2 w.length (i64s w) u2]), (6, I (tot m a w)), (11, I K), (17, gl (i64s (nats (brF a o i))) (nats (brF a o i)).length (.tok t)), (18, I i), (19, I (psK o (a.getD i (0, 0)).1 k)), (20, I (psK o (a.getD i (0, 0)).2 k)), (21, I k)]) (fun _ => h'.setTok t (nats (brF a o i)).length 1) (fun k => k ≤ o.length) (fun k => o.length - k) 0 (Nat.zero_le _) (GStep.forget (by repeat' first | exact EnvLe.nil _ | refine EnvLe.cons (AV.le.of_eq rfl) ?_ | refine EnvLe.cons (AV.le.undef _) ?_ | refine EnvLe.cons AV.le.unk ?_) (by repeat' first | exact AH.le.refl _ | assumption | (refine AH.le_put ?_ (by first | assumption | exact (AH.blk_put_ne _ _ (by assumption)).trans (by assumption) | exact AH.none_put (by assumption) | exact AH.none_put (AH.none_put (by assumption)) | (simp only [AH.blk_setTok, AH.tok_put] at *; first | assumption | exact AH.none_put (by assumption)))) | (refine AH.le_setTok ?_ (by first | assumption | exact (AH.blk_put_ne _ _ (by assumption)).trans (by assumption) | exact AH.none_put (by assumption) | exact AH.none_put (AH.none_put (by assumption)) | (simp only [AH.blk_setTok, AH.tok_put] at *; first | assumption | exact AH.none_put (by assumption)))) | (refine AH.le_putM ?_ (by first | assumption | exact (AH.mp_putM_ne _ _ (by assumption)).trans (by assumption) | (simp only [AH.mp_put, AH.mp_setTok] at *; assumption))))) fun k hk => .of_vg hm ?_
    by_cases h4 : k < o.length
    · have hck : (k : Int) < (o.length : Int) := by omega
      have p1 : psK o (a.getD i (0, 0)).1 (k + 1) = if o.getD k 0 = (a.getD i (0, 0)).1 then k else psK o (a.getD i (0, 0)).1 k := rfl
      have p2 : psK o (a.getD i (0, 0)).2 (k + 1) = if o.getD k 0 = (a.getD i (0, 0)).2 then k else psK o (a.getD i (0, 0)).2 k := rfl
      by_cases c1 : o.getD k 0 = (a.getD i (0, 0)).1 <;> by_cases c2 : o.getD k 0 = (a.getD i (0, 0)).2
      · rw [if_pos c1] at p1; rw [if_pos c2] at p2
        simp only [hck, hc, i64s_drop h4, prs_drop h3, decide_eq_true c1, decide_eq_true c2, F_law_AttributionOrders, g_law_AttributionOrders, go_sem, reduceIte, Nat.reduceEqDiff, Nat.reduceAdd, Nat.reduceMul, Nat.reduceSub, reduceCtorEq, Nat.reduceLeDiff, Nat.reduceLT, Int.reduceLT, Int.reduceLE, Int.reduceToNat, Int.reduceAdd, Int.reduceSub, Int.reduceNeg, Int.reduceMul, Int.reduceEq, ← Bool.decide_and, ← Bool.decide_or, ↓tq_n, ↓tq_e, ↓tq_r, ↓bq_n, ↓bq_e, ↓bq_r, ↓rq_n, ↓rq_r, ↓rq_e]
        refine ⟨by rw [inR64]; omega, k + 1, by omega, by omega, ?_⟩
        rw [p1, p2]; exact (GStep.forget (by repeat' first | exact EnvLe.nil _ | refine EnvLe.cons (AV.le.of_eq rfl) ?_ | refine EnvLe.cons (AV.le.undef _) ?_ | refine EnvLe.cons AV.le.unk ?_) (by repeat' first | exact AH.le.refl _ | assumption | (refine AH.le_put ?_ (by first | assumption | exact (AH.blk_put_ne _ _ (by assumption)).trans (by assumption) | exact AH.none_put (by assumption) | exact AH.none_put (AH.none_put (by assumption)) | (simp only [AH.blk_setTok, AH.tok_put] at *; first | assumption | exact AH.none_put (by assumption)))) | (refine AH.le_setTok ?_ (by first | assumption | exact (AH.blk_put_ne _ _ (by assumption)).trans (by assumption) | exact AH.none_put (by assumption) | exact AH.none_put (AH.none_put (by assumption)) | (simp only [AH.blk_setTok, AH.tok_put] at *; first | assumption | exact AH.none_put (by assumption)))) | (refine AH.le_putM ?_ (by first | assumption | exact (AH.mp_putM_ne _ _ (by assumption)).trans (by assumption) | (simp only [AH.mp_put, AH.mp_setTok] at *; assumption)))))
      · rw [if_pos c1] at p1; rw [if_neg c2] at p2
        simp only [hck, hc, i64s_drop h4, prs_drop h3, decide_eq_true c1, decide_eq_false c2, F_law_AttributionOrders, g_law_AttributionOrders, go_sem, reduceIte, Nat.reduceEqDiff, Nat.reduceAdd, Nat.reduceMul, Nat.reduceSub, reduceCtorEq, Nat.reduceLeDiff, Nat.reduceLT, Int.reduceLT, Int.reduceLE, Int.reduceToNat, Int.reduceAdd, Int.reduceSub, Int.reduceNeg, Int.reduceMul, Int.reduceEq, ← Bool.decide_and, ← Bool.decide_or, ↓tq_n, ↓tq_e, ↓tq_r, ↓bq_n, ↓bq_e, ↓bq_r, ↓rq_n, ↓rq_r, ↓rq_e]
        refine ⟨by rw [inR64]; omega, k + 1, by omega, by omega, ?_⟩
        rw [p1, p2]; exact (GStep.forget (by repeat' first | exact EnvLe.nil _ | refine EnvLe.cons (AV.le.of_eq rfl) ?_ | refine EnvLe.cons (AV.le.undef _) ?_ | refine EnvLe.cons AV.le.unk ?_) (by repeat' first | exact AH.le.refl _ | assumption | (refine AH.le_put ?_ (by first | assumption | exact (AH.blk_put_ne _ _ (by assumption)).trans (by assumption) | exact AH.none_put (by assumption) | exact AH.none_put (AH.none_put (by assumption)) | (simp only [AH.blk_setTok, AH.tok_put] at *; first | assumption | exact AH.none_put (by assumption)))) | (refine AH.le_setTok ?_ (by first | assumption | exact (AH.blk_put_ne _ _ (by assumption)).trans (by assumption) | exact AH.none_put (by assumption) | exact AH.none_put (AH.none_put (by assumption)) | (simp only [AH.blk_setTok, AH.tok_put] at *; first | assumption | exact AH.none_put (by assumption)))) | (refine AH.le_putM ?_ (by first | assumption | exact (AH.mp_putM_ne _ _ (by assumption)).trans (by assumption) | (simp only [AH.mp_put, AH.mp_setTok] at *; assumption)))))
      · rw [if_neg c1] at p1; rw [if_pos c2] at p2
        simp only [hck, hc, i64s_drop h4, prs_drop h3, decide_eq_false c1, decide_eq_true c2, F_law_AttributionOrders, g_law_AttributionOrders, go_sem, reduceIte, Nat.reduceEqDiff, Nat.reduceAdd, Nat.reduceMul, Nat.reduceSub, reduceCtorEq, Nat.reduceLeDiff, Nat.reduceLT, Int.reduceLT, Int.reduceLE, Int.reduceToNat, Int.reduceAdd, Int.reduceSub, Int.reduceNeg, Int.reduceMul, Int.reduceEq, ← Bool.decide_and, ← Bool.decide_or, ↓tq_n, ↓tq_e, ↓tq_r, ↓bq_n, ↓bq_e, ↓bq_r, ↓rq_n, ↓rq_r, ↓rq_e]
        refine ⟨by rw [inR64]; omega, k + 1, by omega, by omega, ?_⟩
        rw [p1, p2]; exact (GStep.forget (by repeat' first | exact EnvLe.nil _ | refine EnvLe.cons (AV.le.of_eq rfl) ?_ | refine EnvLe.cons (AV.le.undef _) ?_ | refine EnvLe.cons AV.le.unk ?_) (by repeat' first | exact AH.le.refl _ | assumption | (refine AH.le_put ?_ (by first | assumption | exact (AH.blk_put_ne _ _ (by assumption)).trans (by assumption) | exact AH.none_put (by assumption) | exact AH.none_put (AH.none_put (by assumption)) | (simp only [AH.blk_setTok, AH.tok_put] at *; first | assumption | exact AH.none_put (by assumption)))) | (refine AH.le_setTok ?_ (by first | assumption | exact (AH.blk_put_ne _ _ (by assumption)).trans (by assumption) | exact AH.none_put (by assumption) | exact AH.none_put (AH.none_put (by assumption)) | (simp only [AH.blk_setTok, AH.tok_put] at *; first | assumption | exact AH.none_put (by assumption)))) | (refine AH.le_putM ?_ (by first | assumption | exact (AH.mp_putM_ne _ _ (by assumption)).trans (by assumption) | (simp only [AH.mp_put, AH.mp_setTok] at *; assumption)))))
      · rw [if_neg c1] at p1; rw [if_neg c2] at p2
        simp only [hck, hc, i64s_drop h4, prs_drop h3, decide_eq_false c1, decide_eq_false c2, F_law_AttributionOrders, g_law_AttributionOrders, go_sem, reduceIte, Nat.reduceEqDiff, Nat.reduceAdd, Nat.reduceMul, Nat.reduceSub, reduceCtorEq, Nat.reduceLeDiff, Nat.reduceLT, Int.reduceLT, Int.reduceLE, Int.reduceToNat, Int.reduceAdd, Int.reduceSub, Int.reduceNeg, Int.reduceMul, Int.reduceEq, ← Bool.decide_and, ← Bool.decide_or, ↓tq_n, ↓tq_e, ↓tq_r, ↓bq_n, ↓bq_e, ↓bq_r, ↓rq_n, ↓rq_r, ↓rq_e]
        refine ⟨by rw [inR64]; omega, k + 1, by omega, by omega, ?_⟩
        rw [p1, p2]; exact (GStep.forget (by repeat' first | exact EnvLe.nil _ | refine EnvLe.cons (AV.le.of_eq rfl) ?_ | refine EnvLe.cons (AV.le.undef _) ?_ | refine EnvLe.cons AV.le.unk ?_) (by repeat' first | exact AH.le.refl _ | assumption | (refine AH.le_put ?_ (by first | assumption | exact (AH.blk_put_ne _ _ (by assumption)).trans (by assumption) | exact AH.none_put (by assumption) | exact AH.none_put (AH.none_put (by assumption)) | (simp only [AH.blk_setTok, AH.tok_put] at *; first | assumption | exact AH.none_put (by assumption)))) | (refine AH.le_setTok ?_ (by first | assumption | exact (AH.blk_put_ne _ _ (by assumption)).trans (by assumption) | exact AH.none_put (by assumption) | exact AH.none_put (AH.none_put (by assumption)) | (simp only [AH.blk_setTok, AH.tok_put] at *; first | assumption | exact AH.none_put (by assumption)))) | (refine AH.le_putM ?_ (by first | assumption | exact (AH.mp_putM_ne _ _ (by assumption)).trans (by assumption) | (simp only [AH.mp_put, AH.mp_setTok] at *; assumption)))))
    have h4 : k = o.length := by omega
    subst h4
    by_cases c3 : blR a o i = true
    · have c3' : (psK o (a.getD i (0, 0)).2 o.length : Int) < (psK o (a.getD i (0, 0)).1 o.length : Int) := by
        have := of_decide_eq_true c3
        omega
      rw [if_pos c3] at hsucc
      simp only [c3', F_law_AttributionOrders, g_law_AttributionOrders, go_sem, reduceIte, Nat.reduceEqDiff, Nat.reduceAdd, Nat.reduceMul, Nat.reduceSub, reduceCtorEq, Nat.reduceLeDiff, Nat.reduceLT, Int.reduceLT, Int.reduceLE, Int.reduceToNat, Int.reduceAdd, Int.reduceSub, Int.reduceNeg, Int.reduceMul, Int.reduceEq, ← Bool.decide_and, ← Bool.decide_or, ↓tq_n, ↓tq_e, ↓tq_r, ↓bq_n, ↓bq_e, ↓bq_r, ↓rq_n, ↓rq_r, ↓rq_e]
      refine ⟨by rw [i64s_len], by omega, by omega, by rw [inR64]; omega, i + 1, by omega, by omega, ?_⟩
      rw [hsucc, nats_append, i64s_append, List.length_append]
      exact (GStep.forget (by repeat' first | exact EnvLe.nil _ | refine EnvLe.cons (AV.le.of_eq rfl) ?_ | refine EnvLe.cons (AV.le.undef _) ?_ | refine EnvLe.cons AV.le.unk ?_) (by repeat' first | exact AH.le.refl _ | assumption | (refine AH.le_put ?_ (by first | assumption | exact (AH.blk_put_ne _ _ (by assumption)).trans (by assumption) | exact AH.none_put (by assumption) | exact AH.none_put (AH.none_put (by assumption)) | (simp only [AH.blk_setTok, AH.tok_put] at *; first | assumption | exact AH.none_put (by assumption)))) | (refine AH.le_setTok ?_ (by first | assumption | exact (AH.blk_put_ne _ _ (by assumption)).trans (by assumption) | exact AH.none_put (by assumption) | exact AH.none_put (AH.none_put (by assumption)) | (simp only [AH.blk_setTok, AH.tok_put] at *; first | assumption | exact AH.none_put (by assumption)))) | (refine AH.le_putM ?_ (by first | assumption | exact (AH.mp_putM_ne _ _ (by assumption)).trans (by assumption) | (simp only [AH.mp_put, AH.mp_setTok] at *; assumption)))))
    · have c3' : ¬ (psK o (a.getD i (0, 0)).2 o.length : Int) < (psK o (a.getD i (0, 0)).1 o.length : Int) := fun hh => c3 (decide_eq_true (by omega))
      rw [if_neg c3] at hsucc
      simp only [c3', F_law_AttributionOrders, g_law_AttributionOrders, go_sem, reduceIte, Nat.reduceEqDiff, Nat.reduceAdd, Nat.reduceMul, Nat.reduceSub, reduceCtorEq, Nat.reduceLeDiff, Nat.reduceLT, Int.reduceLT, Int.reduceLE, Int.reduceToNat, Int.reduceAdd, Int.reduceSub, Int.reduceNeg, Int.reduceMul, Int.reduceEq, ← Bool.decide_and, ← Bool.decide_or, ↓tq_n, ↓tq_e, ↓tq_r, ↓bq_n, ↓bq_e, ↓bq_r, ↓rq_n, ↓rq_r, ↓rq_e]
      refine ⟨by rw [inR64]; omega, i + 1, by omega, by omega, ?_⟩
      rw [hsucc]
      exact (GStep.forget (by repeat' first | exact EnvLe.nil _ | refine EnvLe.cons (AV.le.of_eq rfl) ?_ | refine EnvLe.cons (AV.le.undef _) ?_ | refine EnvLe.cons AV.le.unk ?_) (by repeat' first | exact AH.le.refl _ | assumption | (refine AH.le_put ?_ (by first | assumption | exact (AH.blk_put_ne _ _ (by assumption)).trans (by assumption) | exact AH.none_put (by assumption) | exact AH.none_put (AH.none_put (by assumption)) | (simp only [AH.blk_setTok, AH.tok_put] at *; first | assumption | exact AH.none_put (by assumption)))) | (refine AH.le_setTok ?_ (by first | assumption | exact (AH.blk_put_ne _ _ (by assumption)).trans (by assumption) | exact AH.none_put (by assumption) | exact AH.none_put (AH.none_put (by assumption)) | (simp only [AH.blk_setTok, AH.tok_put] at *; first | assumption | exact AH.none_put (by assumption)))) | (refine AH.le_putM ?_ (by first | assumption | exact (AH.mp_putM_ne _ _ (by assumption)).trans (by assumption) | (simp only [AH.mp_put, AH.mp_setTok] at *; assumption)))))
end Go.Proofs.Ytemfmnjhhdeedaa
