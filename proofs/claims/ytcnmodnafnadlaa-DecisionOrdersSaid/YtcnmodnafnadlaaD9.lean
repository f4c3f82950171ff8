/- The statement DecisionOrders as a call. No condition. -/
import Derived.Test.YtcnmodnafnadlaaP2
import Derived.Test.YtcnmodnafnadlaaD8
namespace Go.Proofs.Ytcnmodnafnadlaa
open Go Go.Abs
set_option linter.unusedSimpArgs false
set_option linter.unusedVariables false
set_option maxRecDepth 20000

/-- What lies in the second ledger when the calls from place j on have been made. -/
structure Suf (l : List Op) (j : Nat) (t : St) : Prop where
  ok : OKs t
  m1 : ∀ d, d ∈ t.1 ↔ ∃ o ∈ l.drop j, o.back = false ∧ d = o.d
  m2 : ∀ m, m ∈ t.2 ↔ ∃ o ∈ l.drop j, o.back = true ∧ m = o.m
theorem Suf.step {l : List Op} (hf : fineA s0 l = true) {k : Nat} (hk : k < l.length) {t : St} (h : Suf l (k + 1) t) : (doA t (l.getD k dO)).1 = 0 ∧ (doA (doA t (l.getD k dO)).2 (l.getD k dO)).1 = 0 ∧ Suf l k (doA (doA t (l.getD k dO)).2 (l.getD k dO)).2 := by
  obtain ⟨f1, f2, f3⟩ := fine_mem l hf
  have hF := runA_ok l ok0
  obtain ⟨o, ho⟩ : ∃ o, o = l.getD k dO := ⟨_, rfl⟩
  have hdr := getD_drop l dO hk
  have hom : o ∈ l := by rw [ho]; exact mem_getD hk
  rw [← ho] at hdr ⊢
  have g1 : ∀ d ∈ t.1, d ∈ (runA s0 l).1 := fun d hd => by
    obtain ⟨x, x1, x2⟩ := (h.m1 d).1 hd
    exact (f2 d).2 (.inr ⟨x, List.mem_of_mem_drop x1, x2⟩)
  have g2 : ∀ m ∈ t.2, m ∈ (runA s0 l).2 := fun m hm => by
    obtain ⟨x, x1, x2⟩ := (h.m2 m).1 hm
    exact (f3 m).2 (.inr ⟨x, List.mem_of_mem_drop x1, x2⟩)
  have q1 : o.back = false → o.d ∈ (runA s0 l).1 := fun hb => (f2 _).2 (.inr ⟨o, hom, hb, rfl⟩)
  have q2 : o.back = true → o.m ∈ (runA s0 l).2 := fun hb => (f3 _).2 (.inr ⟨o, hom, hb, rfl⟩)
  have r1 := step_ok hF h.ok g1 g2 (f1 o hom) q1 q2
  obtain ⟨_, w1⟩ := do_goes r1
  have ok1 := doA_ok h.ok o
  have r2 := step_ok hF ok1 (fun d hd => ((w1.m1 d).1 hd).elim (g1 d) fun c => by rw [c.2]; exact q1 c.1) (fun m hm => ((w1.m2 m).1 hm).elim (g2 m) fun c => by rw [c.2]; exact q2 c.1) (f1 o hom) q1 q2
  obtain ⟨_, w2⟩ := do_goes r2
  refine ⟨r1, r2, doA_ok ok1 o, fun d => ?_, fun m => ?_⟩
  · rw [w2.m1, w1.m1, h.m1, hdr]
    constructor
    · rintro ((⟨x, x1, x2⟩ | c) | c)
      · exact ⟨x, by simp [x1], x2⟩
      · exact ⟨o, by simp, c⟩
      · exact ⟨o, by simp, c⟩
    · rintro ⟨x, x1, x2⟩
      rcases List.mem_cons.1 x1 with rfl | x1
      · exact .inr x2
      · exact .inl (.inl ⟨x, x1, x2⟩)
  · rw [w2.m2, w1.m2, h.m2, hdr]
    constructor
    · rintro ((⟨x, x1, x2⟩ | c) | c)
      · exact ⟨x, by simp [x1], x2⟩
      · exact ⟨o, by simp, c⟩
      · exact ⟨o, by simp, c⟩
    · rintro ⟨x, x1, x2⟩
      rcases List.mem_cons.1 x1 with rfl | x1
      · exact .inr x2
      · exact .inl (.inl ⟨x, x1, x2⟩)
set_option maxHeartbeats 4000000 in
theorem r_law_DecisionOrders (nl : Bool) (l : List Op) (tl : Tail) (h : AH) : RCall Try.prog n_law_DecisionOrders [.sl nl l.length (ops l) tl] h (.bool true) := by
  refine RCall.of hm cF_law_DecisionOrders (by simp [g_law_DecisionOrders]) fun hw h' hl => ?_
  simp only [F_law_DecisionOrders, g_law_DecisionOrders, go_sem, reduceIte, Nat.reduceEqDiff, Nat.reduceAdd, Nat.reduceMul, Nat.reduceSub, reduceCtorEq, Nat.reduceLeDiff, Nat.reduceLT, Int.reduceLT, Int.reduceLE, Int.reduceToNat, Int.reduceAdd, Int.reduceSub, Int.reduceNeg, Int.reduceMul, Int.reduceEq, ← Bool.decide_and, ← Bool.decide_or, ↓tq_n, ↓tq_e, ↓tq_r, ↓bq_n, ↓bq_e, ↓bq_r, ↓rq_n, ↓rq_r, ↓rq_e]
  refine CallG.mk (r_law_awake _) ?_
  simp only [F_law_DecisionOrders, g_law_DecisionOrders, go_sem, reduceIte, Nat.reduceEqDiff, Nat.reduceAdd, Nat.reduceMul, Nat.reduceSub, reduceCtorEq, Nat.reduceLeDiff, Nat.reduceLT, Int.reduceLT, Int.reduceLE, Int.reduceToNat, Int.reduceAdd, Int.reduceSub, Int.reduceNeg, Int.reduceMul, Int.reduceEq, ← Bool.decide_and, ← Bool.decide_or, ↓tq_n, ↓tq_e, ↓tq_r, ↓bq_n, ↓bq_e, ↓bq_r, ↓rq_n, ↓rq_r, ↓rq_e]
  refine CallG.mk (r_law_few nl l tl _) ?_
  by_cases hf : l.length ≤ 60
  case neg =>
    rw [decide_eq_false hf]
    simp only [F_law_DecisionOrders, g_law_DecisionOrders, go_sem, reduceIte, Nat.reduceEqDiff, Nat.reduceAdd, Nat.reduceMul, Nat.reduceSub, reduceCtorEq, Nat.reduceLeDiff, Nat.reduceLT, Int.reduceLT, Int.reduceLE, Int.reduceToNat, Int.reduceAdd, Int.reduceSub, Int.reduceNeg, Int.reduceMul, Int.reduceEq, ← Bool.decide_and, ← Bool.decide_or, ↓tq_n, ↓tq_e, ↓tq_r, ↓bq_n, ↓bq_e, ↓bq_r, ↓rq_n, ↓rq_r, ↓rq_e]
    refine CallG.mk (r_law_awake _) ?_
    simp only [F_law_DecisionOrders, g_law_DecisionOrders, go_sem, reduceIte, Nat.reduceEqDiff, Nat.reduceAdd, Nat.reduceMul, Nat.reduceSub, reduceCtorEq, Nat.reduceLeDiff, Nat.reduceLT, Int.reduceLT, Int.reduceLE, Int.reduceToNat, Int.reduceAdd, Int.reduceSub, Int.reduceNeg, Int.reduceMul, Int.reduceEq, ← Bool.decide_and, ← Bool.decide_or, ↓tq_n, ↓tq_e, ↓tq_r, ↓bq_n, ↓bq_e, ↓bq_r, ↓rq_n, ↓rq_r, ↓rq_e]
    exact ret_ok rfl
  rw [decide_eq_true hf]
  simp only [F_law_DecisionOrders, g_law_DecisionOrders, go_sem, reduceIte, Nat.reduceEqDiff, Nat.reduceAdd, Nat.reduceMul, Nat.reduceSub, reduceCtorEq, Nat.reduceLeDiff, Nat.reduceLT, Int.reduceLT, Int.reduceLE, Int.reduceToNat, Int.reduceAdd, Int.reduceSub, Int.reduceNeg, Int.reduceMul, Int.reduceEq, ← Bool.decide_and, ← Bool.decide_or, ↓tq_n, ↓tq_e, ↓tq_r, ↓bq_n, ↓bq_e, ↓bq_r, ↓rq_n, ↓rq_r, ↓rq_e]
  refine CallS.mk (s_law_made nl l tl (by omega) _) fun r H' hr => ?_
  obtain ⟨la, a1, a2, k1, k2, k3, k4, rfl, rfl⟩ := hr
  have hF := runA_ok l ok0
  have hka : Led (setL (newA h' la a1 a2) a1 a2 (runA s0 l)) la a1 a2 (runA s0 l) := (Led.new k4).set _
  have hle : h'.le (setL (newA h' la a1 a2) a1 a2 (runA s0 l)) := by
    unfold setL newA
    exact AH.le_putM (AH.le_putM (AH.le_put (AH.le_putM (AH.le_putM (AH.le.refl _) k2) k3) k1) k2) k3
  obtain ⟨G, hG⟩ : ∃ G, G = setL (newA h' la a1 a2) a1 a2 (runA s0 l) := ⟨_, rfl⟩
  rw [← hG] at hka hle ⊢
  clear hG k1 k2 k3
  cases hfi : fineA s0 l with
  | false =>
    simp only [F_law_DecisionOrders, g_law_DecisionOrders, go_sem, reduceIte, Nat.reduceEqDiff, Nat.reduceAdd, Nat.reduceMul, Nat.reduceSub, reduceCtorEq, Nat.reduceLeDiff, Nat.reduceLT, Int.reduceLT, Int.reduceLE, Int.reduceToNat, Int.reduceAdd, Int.reduceSub, Int.reduceNeg, Int.reduceMul, Int.reduceEq, ← Bool.decide_and, ← Bool.decide_or, ↓tq_n, ↓tq_e, ↓tq_r, ↓bq_n, ↓bq_e, ↓bq_r, ↓rq_n, ↓rq_r, ↓rq_e]
    exact ret_le hle (AV.le.refl _)
  | true =>
    simp only [F_law_DecisionOrders, g_law_DecisionOrders, go_sem, reduceIte, Nat.reduceEqDiff, Nat.reduceAdd, Nat.reduceMul, Nat.reduceSub, reduceCtorEq, Nat.reduceLeDiff, Nat.reduceLT, Int.reduceLT, Int.reduceLE, Int.reduceToNat, Int.reduceAdd, Int.reduceSub, Int.reduceNeg, Int.reduceMul, Int.reduceEq, ← Bool.decide_and, ← Bool.decide_or, ↓tq_n, ↓tq_e, ↓tq_r, ↓bq_n, ↓bq_e, ↓bq_r, ↓rq_n, ↓rq_r, ↓rq_e]
    refine CallS.mk (s_decision_New _) fun r H' hr => ?_
    obtain ⟨lb, b1, b2, m1, m2, m3, m4, rfl, rfl⟩ := hr
    have hla := hka.newA m1 m2 m3
    have hkb := Led.new (h := G) (lb := lb) m4
    obtain ⟨x1, x3⟩ := hka.map_ne m2
    obtain ⟨x2, x4⟩ := hka.map_ne m3
    have hn1 : h'.blk lb = none := by
      cases hb : h'.blk lb with
      | none => rfl
      | some c => rw [hle.blk _ _ hb] at m1; cases m1
    have hn2 : h'.mp b1 = none := by
      cases hb : h'.mp b1 with
      | none => rfl
      | some c => rw [hle.mp _ _ hb] at m2; cases m2
    have hn3 : h'.mp b2 = none := by
      cases hb : h'.mp b2 with
      | none => rfl
      | some c => rw [hle.mp _ _ hb] at m3; cases m3
    have hle2 : h'.le (newA G lb b1 b2) := by
      unfold newA
      exact AH.le_put (AH.le_putM (AH.le_putM hle hn2) hn3) hn1
    obtain ⟨H, hH⟩ : ∃ H, H = newA G lb b1 b2 := ⟨_, rfl⟩
    rw [← hH] at hla hkb hle2 ⊢
    have hin : InR .i64 ((l.length : Int) - 1) := by rw [inR64]; omega
    simp only [F_law_DecisionOrders, g_law_DecisionOrders, go_sem, reduceIte, Nat.reduceEqDiff, Nat.reduceAdd, Nat.reduceMul, Nat.reduceSub, reduceCtorEq, Nat.reduceLeDiff, Nat.reduceLT, Int.reduceLT, Int.reduceLE, Int.reduceToNat, Int.reduceAdd, Int.reduceSub, Int.reduceNeg, Int.reduceMul, Int.reduceEq, ← Bool.decide_and, ← Bool.decide_or, ↓tq_n, ↓tq_e, ↓tq_r, ↓bq_n, ↓bq_e, ↓bq_r, ↓rq_n, ↓rq_r, ↓rq_e]
    refine ⟨hin, ?_⟩
    refine awp_loop (α := Nat × St) (fun p => [(0, .sl nl l.length (ops l) tl), (3, .ptr la 0), (5, .ptr lb 0), (6, I ((p.1 : Int) - 1))]) (fun p => setL H b1 b2 p.2) (fun p => p.1 ≤ l.length ∧ Suf l p.1 p.2) (fun p => p.1) (l.length, s0) ⟨Nat.le_refl _, ok0, fun d => by simp [s0], fun m => by simp [s0]⟩ (by simp only [hkb.self]; exact (GStep.forget (by repeat' first | exact EnvLe.nil _ | refine EnvLe.cons (AV.le.of_eq rfl) ?_ | refine EnvLe.cons (AV.le.undef _) ?_ | refine EnvLe.cons AV.le.unk ?_) (by repeat' first | exact AH.le.refl _ | assumption | (refine AH.le_put ?_ (by first | assumption | exact (AH.blk_put_ne _ _ (by assumption)).trans (by assumption) | exact AH.none_put (by assumption) | exact AH.none_put (AH.none_put (by assumption)) | (simp only [AH.blk_setTok, AH.tok_put] at *; first | assumption | exact AH.none_put (by assumption)))) | (refine AH.le_setTok ?_ (by first | assumption | exact (AH.blk_put_ne _ _ (by assumption)).trans (by assumption) | exact AH.none_put (by assumption) | exact AH.none_put (AH.none_put (by assumption)) | (simp only [AH.blk_setTok, AH.tok_put] at *; first | assumption | exact AH.none_put (by assumption)))) | (refine AH.le_putM ?_ (by first | assumption | exact (AH.mp_putM_ne _ _ (by assumption)).trans (by assumption) | (simp only [AH.mp_put, AH.mp_setTok] at *; assumption)))))) fun p hp => .of_vg hm ?_
    obtain ⟨j, t⟩ := p
    obtain ⟨p1, p2⟩ := hp
    simp only at p1 p2 ⊢
    have hkt := hkb.set t
    have hat := hla.other x1 x2 x3 x4 t
    cases j with
    | zero =>
      have hc : ¬ (0 : Int) ≤ ((0 : Nat) : Int) - 1 := by omega
      obtain ⟨f1, f2, f3⟩ := fine_mem l hfi
      have hsr : srS (runA s0 l) = srS t := sr_eq hF p2.ok (fun d => by rw [f2, p2.m1]; simp [s0]) (fun m => by rw [f3, p2.m2]; simp [s0])
      simp only [hc, decide_eq_false hc, F_law_DecisionOrders, g_law_DecisionOrders, go_sem, reduceIte, Nat.reduceEqDiff, Nat.reduceAdd, Nat.reduceMul, Nat.reduceSub, reduceCtorEq, Nat.reduceLeDiff, Nat.reduceLT, Int.reduceLT, Int.reduceLE, Int.reduceToNat, Int.reduceAdd, Int.reduceSub, Int.reduceNeg, Int.reduceMul, Int.reduceEq, ← Bool.decide_and, ← Bool.decide_or, ↓tq_n, ↓tq_e, ↓tq_r, ↓bq_n, ↓bq_e, ↓bq_r, ↓rq_n, ↓rq_r, ↓rq_e]
      refine CallG.mk (r_decision_Ledger_Same la a1 a2 lb b1 b2 _ t hF p2.ok _ hat hkt) ?_
      rw [decide_eq_true hsr]
      simp only [F_law_DecisionOrders, g_law_DecisionOrders, go_sem, reduceIte, Nat.reduceEqDiff, Nat.reduceAdd, Nat.reduceMul, Nat.reduceSub, reduceCtorEq, Nat.reduceLeDiff, Nat.reduceLT, Int.reduceLT, Int.reduceLE, Int.reduceToNat, Int.reduceAdd, Int.reduceSub, Int.reduceNeg, Int.reduceMul, Int.reduceEq, ← Bool.decide_and, ← Bool.decide_or, ↓tq_n, ↓tq_e, ↓tq_r, ↓bq_n, ↓bq_e, ↓bq_r, ↓rq_n, ↓rq_r, ↓rq_e]
      refine CallG.mk (r_decision_Ledger_Same lb b1 b2 la a1 a2 t _ p2.ok hF _ hkt hat) ?_
      rw [decide_eq_true hsr.symm]
      simp only [F_law_DecisionOrders, g_law_DecisionOrders, go_sem, reduceIte, Nat.reduceEqDiff, Nat.reduceAdd, Nat.reduceMul, Nat.reduceSub, reduceCtorEq, Nat.reduceLeDiff, Nat.reduceLT, Int.reduceLT, Int.reduceLE, Int.reduceToNat, Int.reduceAdd, Int.reduceSub, Int.reduceNeg, Int.reduceMul, Int.reduceEq, ← Bool.decide_and, ← Bool.decide_or, ↓tq_n, ↓tq_e, ↓tq_r, ↓bq_n, ↓bq_e, ↓bq_r, ↓rq_n, ↓rq_r, ↓rq_e]
      refine CallG.mk (r_decision_Ledger_Standing la a1 a2 _ hF _ hat) ?_
      simp only [F_law_DecisionOrders, g_law_DecisionOrders, go_sem, reduceIte, Nat.reduceEqDiff, Nat.reduceAdd, Nat.reduceMul, Nat.reduceSub, reduceCtorEq, Nat.reduceLeDiff, Nat.reduceLT, Int.reduceLT, Int.reduceLE, Int.reduceToNat, Int.reduceAdd, Int.reduceSub, Int.reduceNeg, Int.reduceMul, Int.reduceEq, ← Bool.decide_and, ← Bool.decide_or, ↓tq_n, ↓tq_e, ↓tq_r, ↓bq_n, ↓bq_e, ↓bq_r, ↓rq_n, ↓rq_r, ↓rq_e]
      refine CallG.mk (r_decision_Ledger_Standing lb b1 b2 t p2.ok _ hkt) ?_
      simp only [stV, F_law_DecisionOrders, g_law_DecisionOrders, go_sem, reduceIte, Nat.reduceEqDiff, Nat.reduceAdd, Nat.reduceMul, Nat.reduceSub, reduceCtorEq, Nat.reduceLeDiff, Nat.reduceLT, Int.reduceLT, Int.reduceLE, Int.reduceToNat, Int.reduceAdd, Int.reduceSub, Int.reduceNeg, Int.reduceMul, Int.reduceEq, ← Bool.decide_and, ← Bool.decide_or, ↓tq_n, ↓tq_e, ↓tq_r, ↓bq_n, ↓bq_e, ↓bq_r, ↓rq_n, ↓rq_r, ↓rq_e]
      refine CallG.mk (r_base_Decisions _ (stL (runA s0 l)) _ _ (stL t) _ _) ?_
      rw [decide_eq_true (st_eq hsr)]
      simp only [F_law_DecisionOrders, g_law_DecisionOrders, go_sem, reduceIte, Nat.reduceEqDiff, Nat.reduceAdd, Nat.reduceMul, Nat.reduceSub, reduceCtorEq, Nat.reduceLeDiff, Nat.reduceLT, Int.reduceLT, Int.reduceLE, Int.reduceToNat, Int.reduceAdd, Int.reduceSub, Int.reduceNeg, Int.reduceMul, Int.reduceEq, ← Bool.decide_and, ← Bool.decide_or, ↓tq_n, ↓tq_e, ↓tq_r, ↓bq_n, ↓bq_e, ↓bq_r, ↓rq_n, ↓rq_r, ↓rq_e]
      refine ret_le ?_ (AV.le.refl _)
      unfold setL
      exact AH.le_putM (AH.le_putM hle2 hn2) hn3
    | succ k =>
      have hc : (0 : Int) ≤ ((k + 1 : Nat) : Int) - 1 := by omega
      have hk1 : ((k + 1 : Nat) : Int) - 1 = (k : Int) := by omega
      have hck : (k : Int) < (l.length : Int) := by omega
      have hk0 : (0 : Int) ≤ (k : Int) := by omega
      have hkl : k < l.length := by omega
      obtain ⟨e1, e2, e3⟩ := p2.step hfi hkl
      obtain ⟨o, ho⟩ : ∃ o, o = l.getD k dO := ⟨_, rfl⟩
      have hod := ops_drop hkl
      rw [← ho] at hod e1 e2 e3
      simp only [hk1, hck, hk0, hod, decide_eq_true hk0, F_law_DecisionOrders, g_law_DecisionOrders, go_sem, reduceIte, Nat.reduceEqDiff, Nat.reduceAdd, Nat.reduceMul, Nat.reduceSub, reduceCtorEq, Nat.reduceLeDiff, Nat.reduceLT, Int.reduceLT, Int.reduceLE, Int.reduceToNat, Int.reduceAdd, Int.reduceSub, Int.reduceNeg, Int.reduceMul, Int.reduceEq, ← Bool.decide_and, ← Bool.decide_or, ↓tq_n, ↓tq_e, ↓tq_r, ↓bq_n, ↓bq_e, ↓bq_r, ↓rq_n, ↓rq_r, ↓rq_e]
      refine CallS.mk (r_law_do lb b1 b2 t o p2.ok.few _ hkt) fun r H' hr => ?_
      obtain ⟨rfl, rfl⟩ := hr
      rw [setL_setL _ m4, e1]
      have hkt2 := hkb.set (doA t o).2
      have ok2 := doA_ok p2.ok o
      simp only [hk1, hck, hk0, hod, F_law_DecisionOrders, g_law_DecisionOrders, go_sem, reduceIte, Nat.reduceEqDiff, Nat.reduceAdd, Nat.reduceMul, Nat.reduceSub, reduceCtorEq, Nat.reduceLeDiff, Nat.reduceLT, Int.reduceLT, Int.reduceLE, Int.reduceToNat, Int.reduceAdd, Int.reduceSub, Int.reduceNeg, Int.reduceMul, Int.reduceEq, ← Bool.decide_and, ← Bool.decide_or, ↓tq_n, ↓tq_e, ↓tq_r, ↓bq_n, ↓bq_e, ↓bq_r, ↓rq_n, ↓rq_r, ↓rq_e]
      refine CallS.mk (r_law_do lb b1 b2 (doA t o).2 o ok2.few _ hkt2) fun r H' hr => ?_
      obtain ⟨rfl, rfl⟩ := hr
      rw [setL_setL _ m4, e2]
      simp only [hk1, F_law_DecisionOrders, g_law_DecisionOrders, go_sem, reduceIte, Nat.reduceEqDiff, Nat.reduceAdd, Nat.reduceMul, Nat.reduceSub, reduceCtorEq, Nat.reduceLeDiff, Nat.reduceLT, Int.reduceLT, Int.reduceLE, Int.reduceToNat, Int.reduceAdd, Int.reduceSub, Int.reduceNeg, Int.reduceMul, Int.reduceEq, ← Bool.decide_and, ← Bool.decide_or, ↓tq_n, ↓tq_e, ↓tq_r, ↓bq_n, ↓bq_e, ↓bq_r, ↓rq_n, ↓rq_r, ↓rq_e]
      exact ⟨by rw [inR64]; omega, (k, (doA (doA t o).2 o).2), ⟨by simp only; omega, e3⟩, by simp only; omega, (GStep.forget (by repeat' first | exact EnvLe.nil _ | refine EnvLe.cons (AV.le.of_eq rfl) ?_ | refine EnvLe.cons (AV.le.undef _) ?_ | refine EnvLe.cons AV.le.unk ?_) (by repeat' first | exact AH.le.refl _ | assumption | (refine AH.le_put ?_ (by first | assumption | exact (AH.blk_put_ne _ _ (by assumption)).trans (by assumption) | exact AH.none_put (by assumption) | exact AH.none_put (AH.none_put (by assumption)) | (simp only [AH.blk_setTok, AH.tok_put] at *; first | assumption | exact AH.none_put (by assumption)))) | (refine AH.le_setTok ?_ (by first | assumption | exact (AH.blk_put_ne _ _ (by assumption)).trans (by assumption) | exact AH.none_put (by assumption) | exact AH.none_put (AH.none_put (by assumption)) | (simp only [AH.blk_setTok, AH.tok_put] at *; first | assumption | exact AH.none_put (by assumption)))) | (refine AH.le_putM ?_ (by first | assumption | exact (AH.mp_putM_ne _ _ (by assumption)).trans (by assumption) | (simp only [AH.mp_put, AH.mp_setTok] at *; assumption)))))⟩
end Go.Proofs.Ytcnmodnafnadlaa
