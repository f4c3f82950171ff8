/- The statement DecisionWithdraws as a call. No condition. -/
import Derived.Test.YtcnmodnafnadlaaP2
import Derived.Test.YtcnmodnafnadlaaD8
namespace Go.Proofs.Ytcnmodnafnadlaa
open Go Go.Abs
set_option linter.unusedSimpArgs false
set_option linter.unusedVariables false
set_option maxRecDepth 20000

theorem kpK_pre (p : Dec → Bool) (xs : List Dec) (i : Nat) : kpK p xs xs.length = kpK p xs i ++ (xs.drop i).filter fun x => !p x := by
  rw [kpK_all]
  unfold kpK
  rw [← List.filter_append, List.take_append_drop]
theorem kpK_at (p : Dec → Bool) {xs : List Dec} {i : Nat} (h : i < xs.length) (hp : p (xs.getD i dD) = false) : (kpK p xs i).length < (kpK p xs xs.length).length ∧ (kpK p xs xs.length).getD (kpK p xs i).length dD = xs.getD i dD := by
  have e : (xs.drop i).filter (fun x => !p x) = xs.getD i dD :: (xs.drop (i + 1)).filter fun x => !p x := by
    rw [getD_drop xs dD h, List.filter_cons, hp]
    rfl
  rw [kpK_pre p xs i, e]
  refine ⟨by rw [List.length_append, List.length_cons]; omega, ?_⟩
  simp [List.getD]
theorem kpK_le (p : Dec → Bool) (xs : List Dec) (i : Nat) : (kpK p xs i).length ≤ i := by
  have := List.length_filter_le (fun x => !p x) (xs.take i)
  rw [List.length_take] at this
  unfold kpK
  omega
/-- Whether a standing decision is withdrawn by one more call. -/
def goP (F : St) (m : Int × Int) (d : Dec) : Bool := decide ((wdL F.2 m).1 = 0) && decide (d.mk2 = m)
theorem st_after (F : St) (m : Int × Int) : stL (F.1, (wdL F.2 m).2) = kpK (goP F m) (stL F) (stL F).length := by
  rw [kpK_all]
  unfold stL
  simp only
  rw [List.filter_filter]
  refine List.filter_congr fun d _ => ?_
  have h : d.mk2 ∈ (wdL F.2 m).2 ↔ d.mk2 ∈ F.2 ∨ goP F m d = true := by
    unfold goP
    by_cases c : (wdL F.2 m).1 = 0
    · rw [(wd_goes c).2]
      simp [c]
    · have e : (wdL F.2 m).2 = F.2 := by
        unfold wdL at *
        repeat' split
        all_goals first | rfl | skip
        rename_i h1 h2 h3
        rw [if_pos h1, if_neg h2, if_neg h3] at c
        exact absurd rfl c
      rw [e]
      simp [c]
  by_cases c1 : d.mk2 ∈ F.2 <;> cases c2 : goP F m d <;> simp_all
set_option maxHeartbeats 8000000 in
theorem r_law_DecisionWithdraws (nl : Bool) (l : List Op) (tl : Tail) (m : Int × Int) (h : AH) : RCall Try.prog n_law_DecisionWithdraws [.sl nl l.length (ops l) tl, .st [I m.1, I m.2]] h (.bool true) := by
  refine RCall.of hm cF_law_DecisionWithdraws (by simp [g_law_DecisionWithdraws]) fun hw h' hl => ?_
  simp only [F_law_DecisionWithdraws, g_law_DecisionWithdraws, go_sem, reduceIte, Nat.reduceEqDiff, Nat.reduceAdd, Nat.reduceMul, Nat.reduceSub, reduceCtorEq, Nat.reduceLeDiff, Nat.reduceLT, Int.reduceLT, Int.reduceLE, Int.reduceToNat, Int.reduceAdd, Int.reduceSub, Int.reduceNeg, Int.reduceMul, Int.reduceEq, ← Bool.decide_and, ← Bool.decide_or, ↓tq_n, ↓tq_e, ↓tq_r, ↓bq_n, ↓bq_e, ↓bq_r, ↓rq_n, ↓rq_r, ↓rq_e]
  refine CallG.mk (r_law_awake _) ?_
  simp only [F_law_DecisionWithdraws, g_law_DecisionWithdraws, go_sem, reduceIte, Nat.reduceEqDiff, Nat.reduceAdd, Nat.reduceMul, Nat.reduceSub, reduceCtorEq, Nat.reduceLeDiff, Nat.reduceLT, Int.reduceLT, Int.reduceLE, Int.reduceToNat, Int.reduceAdd, Int.reduceSub, Int.reduceNeg, Int.reduceMul, Int.reduceEq, ← Bool.decide_and, ← Bool.decide_or, ↓tq_n, ↓tq_e, ↓tq_r, ↓bq_n, ↓bq_e, ↓bq_r, ↓rq_n, ↓rq_r, ↓rq_e]
  refine CallG.mk (r_law_few nl l tl _) ?_
  by_cases hf : l.length ≤ 60
  case neg =>
    rw [decide_eq_false hf]
    simp only [F_law_DecisionWithdraws, g_law_DecisionWithdraws, go_sem, reduceIte, Nat.reduceEqDiff, Nat.reduceAdd, Nat.reduceMul, Nat.reduceSub, reduceCtorEq, Nat.reduceLeDiff, Nat.reduceLT, Int.reduceLT, Int.reduceLE, Int.reduceToNat, Int.reduceAdd, Int.reduceSub, Int.reduceNeg, Int.reduceMul, Int.reduceEq, ← Bool.decide_and, ← Bool.decide_or, ↓tq_n, ↓tq_e, ↓tq_r, ↓bq_n, ↓bq_e, ↓bq_r, ↓rq_n, ↓rq_r, ↓rq_e]
    refine CallG.mk (r_law_awake _) ?_
    simp only [F_law_DecisionWithdraws, g_law_DecisionWithdraws, go_sem, reduceIte, Nat.reduceEqDiff, Nat.reduceAdd, Nat.reduceMul, Nat.reduceSub, reduceCtorEq, Nat.reduceLeDiff, Nat.reduceLT, Int.reduceLT, Int.reduceLE, Int.reduceToNat, Int.reduceAdd, Int.reduceSub, Int.reduceNeg, Int.reduceMul, Int.reduceEq, ← Bool.decide_and, ← Bool.decide_or, ↓tq_n, ↓tq_e, ↓tq_r, ↓bq_n, ↓bq_e, ↓bq_r, ↓rq_n, ↓rq_r, ↓rq_e]
    exact ret_ok rfl
  rw [decide_eq_true hf]
  simp only [F_law_DecisionWithdraws, g_law_DecisionWithdraws, go_sem, reduceIte, Nat.reduceEqDiff, Nat.reduceAdd, Nat.reduceMul, Nat.reduceSub, reduceCtorEq, Nat.reduceLeDiff, Nat.reduceLT, Int.reduceLT, Int.reduceLE, Int.reduceToNat, Int.reduceAdd, Int.reduceSub, Int.reduceNeg, Int.reduceMul, Int.reduceEq, ← Bool.decide_and, ← Bool.decide_or, ↓tq_n, ↓tq_e, ↓tq_r, ↓bq_n, ↓bq_e, ↓bq_r, ↓rq_n, ↓rq_r, ↓rq_e]
  refine CallS.mk (s_law_made nl l tl (by omega) _) fun r H' hr => ?_
  obtain ⟨la, a1, a2, k1, k2, k3, k4, rfl, rfl⟩ := hr
  have hF := runA_ok l ok0
  have hka : Led (setL (newA h' la a1 a2) a1 a2 (runA s0 l)) la a1 a2 (runA s0 l) := (Led.new k4).set _
  have hle : h'.le (setL (newA h' la a1 a2) a1 a2 (runA s0 l)) := by
    unfold setL newA
    exact AH.le_putM (AH.le_putM (AH.le_put (AH.le_putM (AH.le_putM (AH.le.refl _) k2) k3) k1) k2) k3
  obtain ⟨G, hG⟩ : ∃ G, G = setL (newA h' la a1 a2) a1 a2 (runA s0 l) := ⟨_, rfl⟩
  obtain ⟨F, hFd⟩ : ∃ F, F = runA s0 l := ⟨_, rfl⟩
  rw [← hG] at hka hle ⊢
  rw [← hFd] at hka hF
  clear hG
  simp only [F_law_DecisionWithdraws, g_law_DecisionWithdraws, go_sem, reduceIte, Nat.reduceEqDiff, Nat.reduceAdd, Nat.reduceMul, Nat.reduceSub, reduceCtorEq, Nat.reduceLeDiff, Nat.reduceLT, Int.reduceLT, Int.reduceLE, Int.reduceToNat, Int.reduceAdd, Int.reduceSub, Int.reduceNeg, Int.reduceMul, Int.reduceEq, ← Bool.decide_and, ← Bool.decide_or, ↓tq_n, ↓tq_e, ↓tq_r, ↓bq_n, ↓bq_e, ↓bq_r, ↓rq_n, ↓rq_r, ↓rq_e]
  refine CallG.mk (r_decision_Ledger_Standing la a1 a2 F hF _ hka) ?_
  simp only [F_law_DecisionWithdraws, g_law_DecisionWithdraws, go_sem, reduceIte, Nat.reduceEqDiff, Nat.reduceAdd, Nat.reduceMul, Nat.reduceSub, reduceCtorEq, Nat.reduceLeDiff, Nat.reduceLT, Int.reduceLT, Int.reduceLE, Int.reduceToNat, Int.reduceAdd, Int.reduceSub, Int.reduceNeg, Int.reduceMul, Int.reduceEq, ← Bool.decide_and, ← Bool.decide_or, ↓tq_n, ↓tq_e, ↓tq_r, ↓bq_n, ↓bq_e, ↓bq_r, ↓rq_n, ↓rq_r, ↓rq_e]
  refine CallS.mk (r_decision_Ledger_Withdraw la a1 a2 F.2 m hF.few.2 _ hka.blk hka.m2) fun r H' hr => ?_
  obtain ⟨rfl, rfl⟩ := hr
  have hkb := hka.w (wdL F.2 m).2
  have hok2 : OKs (F.1, (wdL F.2 m).2) := doA_ok hF ⟨true, dD, m⟩
  have hle2 : h'.le (G.putM a2 (enM (wdL F.2 m).2)) := AH.le_putM hle k3
  obtain ⟨H, hH⟩ : ∃ H, H = G.putM a2 (enM (wdL F.2 m).2) := ⟨_, rfl⟩
  rw [← hH] at hkb hle2 ⊢
  simp only [F_law_DecisionWithdraws, g_law_DecisionWithdraws, go_sem, reduceIte, Nat.reduceEqDiff, Nat.reduceAdd, Nat.reduceMul, Nat.reduceSub, reduceCtorEq, Nat.reduceLeDiff, Nat.reduceLT, Int.reduceLT, Int.reduceLE, Int.reduceToNat, Int.reduceAdd, Int.reduceSub, Int.reduceNeg, Int.reduceMul, Int.reduceEq, ← Bool.decide_and, ← Bool.decide_or, ↓tq_n, ↓tq_e, ↓tq_r, ↓bq_n, ↓bq_e, ↓bq_r, ↓rq_n, ↓rq_r, ↓rq_e]
  refine CallG.mk (r_decision_Ledger_Standing la a1 a2 _ hok2 _ hkb) ?_
  have haf := st_after F m
  have hbn : (stL F).length ≤ 200 := by
    have := List.length_filter_le (fun d : Dec => !decide (d.mk2 ∈ F.2)) (srtD F.1)
    have h2 := hF.few.1
    rw [srtD_len] at this
    unfold stL
    omega
  have han : (stL (F.1, (wdL F.2 m).2)).length ≤ F.1.length := by
    have := List.length_filter_le (fun d : Dec => !decide (d.mk2 ∈ (wdL F.2 m).2)) (srtD F.1)
    rw [srtD_len] at this
    exact this
  have hno : ∀ d ∈ stL (F.1, (wdL F.2 m).2), d.mk2 ∉ (wdL F.2 m).2 := fun d hd => by
    unfold stL at hd
    have := (List.mem_filter.1 hd).2
    simpa using this
  unfold stV
  simp only
  obtain ⟨e, he⟩ : ∃ e, e = (wdL F.2 m).1 := ⟨_, rfl⟩
  obtain ⟨W, hW⟩ : ∃ W, W = (wdL F.2 m).2 := ⟨_, rfl⟩
  obtain ⟨B, hB⟩ : ∃ B, B = stL F := ⟨_, rfl⟩
  obtain ⟨A, hA⟩ : ∃ A, A = stL (F.1, W) := ⟨_, rfl⟩
  obtain ⟨p, hp⟩ : ∃ p, p = goP F m := ⟨_, rfl⟩
  have hpd : ∀ d, p d = (decide (e = 0) && decide (d.mk2 = m)) := fun d => by rw [hp, he]; rfl
  rw [← he]
  rw [← hW] at hkb hok2 haf han hno ⊢
  rw [← hA] at haf han hno ⊢
  rw [← hB, ← hp] at haf
  rw [← hB] at hbn ⊢
  simp only [F_law_DecisionWithdraws, g_law_DecisionWithdraws, go_sem, reduceIte, Nat.reduceEqDiff, Nat.reduceAdd, Nat.reduceMul, Nat.reduceSub, reduceCtorEq, Nat.reduceLeDiff, Nat.reduceLT, Int.reduceLT, Int.reduceLE, Int.reduceToNat, Int.reduceAdd, Int.reduceSub, Int.reduceNeg, Int.reduceMul, Int.reduceEq, ← Bool.decide_and, ← Bool.decide_or, ↓tq_n, ↓tq_e, ↓tq_r, ↓bq_n, ↓bq_e, ↓bq_r, ↓rq_n, ↓rq_r, ↓rq_e]
  refine awp_loop (fun i : Nat => [(3, .sptr [I m.1, I m.2]), (5, .ptr la 0), (7, .sl (decide (srtD F.1 = [])) B.length (dcs B) .unk), (8, I e), (9, .sl (decide (srtD F.1 = [])) A.length (dcs A) .unk), (10, I (kpK p B i).length), (11, I i)]) (fun _ => H) (fun i => i ≤ B.length) (fun i => B.length - i) 0 (Nat.zero_le _) (GStep.forget (by repeat' first | exact EnvLe.nil _ | refine EnvLe.cons (AV.le.of_eq rfl) ?_ | refine EnvLe.cons (AV.le.undef _) ?_ | refine EnvLe.cons AV.le.unk ?_) (by repeat' first | exact AH.le.refl _ | assumption | (refine AH.le_put ?_ (by first | assumption | exact (AH.blk_put_ne _ _ (by assumption)).trans (by assumption) | exact AH.none_put (by assumption) | exact AH.none_put (AH.none_put (by assumption)) | (simp only [AH.blk_setTok, AH.tok_put] at *; first | assumption | exact AH.none_put (by assumption)))) | (refine AH.le_setTok ?_ (by first | assumption | exact (AH.blk_put_ne _ _ (by assumption)).trans (by assumption) | exact AH.none_put (by assumption) | exact AH.none_put (AH.none_put (by assumption)) | (simp only [AH.blk_setTok, AH.tok_put] at *; first | assumption | exact AH.none_put (by assumption)))) | (refine AH.le_putM ?_ (by first | assumption | exact (AH.mp_putM_ne _ _ (by assumption)).trans (by assumption) | (simp only [AH.mp_put, AH.mp_setTok] at *; assumption))))) fun i hi => .of_vg hm ?_
  have hkl := kpK_le p B i
  by_cases h3 : i < B.length
  · have hc : (i : Int) < (B.length : Int) := by omega
    have hi0 : (0 : Int) ≤ (i : Int) := by omega
    have hsucc := kpK_succ p h3
    have hat := kpK_at p h3
    rw [← haf] at hat
    have hdb := dcs_drop h3
    obtain ⟨d, hd⟩ : ∃ d, d = B.getD i dD := ⟨_, rfl⟩
    rw [← hd] at hsucc hat hdb
    have hpd := hpd d
    cases hpp : p d with
    | true =>
      rw [hpp, if_pos rfl] at hsucc
      rw [hpp] at hpd
      obtain ⟨c1, c2⟩ := Bool.and_eq_true_iff.1 hpd.symm
      have c1 := of_decide_eq_true c1
      have c2 := of_decide_eq_true c2
      have c3 : d.au = m.1 := by rw [← c2]; rfl
      have c4 : d.nu = m.2 := by rw [← c2]; rfl
      simp only [hc, hi0, hdb, decide_eq_true c1, decide_eq_true c3, decide_eq_true c4, F_law_DecisionWithdraws, g_law_DecisionWithdraws, go_sem, reduceIte, Nat.reduceEqDiff, Nat.reduceAdd, Nat.reduceMul, Nat.reduceSub, reduceCtorEq, Nat.reduceLeDiff, Nat.reduceLT, Int.reduceLT, Int.reduceLE, Int.reduceToNat, Int.reduceAdd, Int.reduceSub, Int.reduceNeg, Int.reduceMul, Int.reduceEq, ← Bool.decide_and, ← Bool.decide_or, ↓tq_n, ↓tq_e, ↓tq_r, ↓bq_n, ↓bq_e, ↓bq_r, ↓rq_n, ↓rq_r, ↓rq_e]
      refine ⟨by rw [inR64]; omega, i + 1, by omega, by omega, ?_⟩
      rw [hsucc]
      exact (GStep.forget (by repeat' first | exact EnvLe.nil _ | refine EnvLe.cons (AV.le.of_eq rfl) ?_ | refine EnvLe.cons (AV.le.undef _) ?_ | refine EnvLe.cons AV.le.unk ?_) (by repeat' first | exact AH.le.refl _ | assumption | (refine AH.le_put ?_ (by first | assumption | exact (AH.blk_put_ne _ _ (by assumption)).trans (by assumption) | exact AH.none_put (by assumption) | exact AH.none_put (AH.none_put (by assumption)) | (simp only [AH.blk_setTok, AH.tok_put] at *; first | assumption | exact AH.none_put (by assumption)))) | (refine AH.le_setTok ?_ (by first | assumption | exact (AH.blk_put_ne _ _ (by assumption)).trans (by assumption) | exact AH.none_put (by assumption) | exact AH.none_put (AH.none_put (by assumption)) | (simp only [AH.blk_setTok, AH.tok_put] at *; first | assumption | exact AH.none_put (by assumption)))) | (refine AH.le_putM ?_ (by first | assumption | exact (AH.mp_putM_ne _ _ (by assumption)).trans (by assumption) | (simp only [AH.mp_put, AH.mp_setTok] at *; assumption)))))
    | false =>
      rw [hpp, if_neg (by decide)] at hsucc
      rw [hpp] at hpd
      obtain ⟨g1, g2⟩ := hat hpp
      obtain ⟨k, hk⟩ : ∃ k, k = (kpK p B i).length := ⟨_, rfl⟩
      rw [← hk] at g1 g2 hkl ⊢
      have hck : (k : Int) < (A.length : Int) := by omega
      have hck2 : ¬ (A.length : Int) ≤ (k : Int) := by omega
      have hk0 : (0 : Int) ≤ (k : Int) := by omega
      have hda := dcs_drop g1
      rw [g2] at hda
      have hl2 : (kpK p B (i + 1)).length = k + 1 := by rw [hsucc, List.length_append, ← hk]; rfl
      by_cases c1 : e = 0
      · by_cases c3 : d.au = m.1
        · have c4 : ¬ d.nu = m.2 := fun hh => by
            rw [decide_eq_true c1, decide_eq_true (show d.mk2 = m from Prod.ext c3 hh)] at hpd
            cases hpd
          simp only [hc, hi0, hdb, decide_eq_true c1, decide_eq_true c3, c4, decide_eq_false c4, hck, hck2, decide_eq_false hck2, hk0, hda, eqCells, F_law_DecisionWithdraws, g_law_DecisionWithdraws, go_sem, reduceIte, Nat.reduceEqDiff, Nat.reduceAdd, Nat.reduceMul, Nat.reduceSub, reduceCtorEq, Nat.reduceLeDiff, Nat.reduceLT, Int.reduceLT, Int.reduceLE, Int.reduceToNat, Int.reduceAdd, Int.reduceSub, Int.reduceNeg, Int.reduceMul, Int.reduceEq, ← Bool.decide_and, ← Bool.decide_or, ↓tq_n, ↓tq_e, ↓tq_r, ↓bq_n, ↓bq_e, ↓bq_r, ↓rq_n, ↓rq_r, ↓rq_e]
          refine ⟨by rw [inR64]; omega, by rw [inR64]; omega, i + 1, by omega, by omega, ?_⟩
          rw [hl2]
          exact (GStep.forget (by repeat' first | exact EnvLe.nil _ | refine EnvLe.cons (AV.le.of_eq rfl) ?_ | refine EnvLe.cons (AV.le.undef _) ?_ | refine EnvLe.cons AV.le.unk ?_) (by repeat' first | exact AH.le.refl _ | assumption | (refine AH.le_put ?_ (by first | assumption | exact (AH.blk_put_ne _ _ (by assumption)).trans (by assumption) | exact AH.none_put (by assumption) | exact AH.none_put (AH.none_put (by assumption)) | (simp only [AH.blk_setTok, AH.tok_put] at *; first | assumption | exact AH.none_put (by assumption)))) | (refine AH.le_setTok ?_ (by first | assumption | exact (AH.blk_put_ne _ _ (by assumption)).trans (by assumption) | exact AH.none_put (by assumption) | exact AH.none_put (AH.none_put (by assumption)) | (simp only [AH.blk_setTok, AH.tok_put] at *; first | assumption | exact AH.none_put (by assumption)))) | (refine AH.le_putM ?_ (by first | assumption | exact (AH.mp_putM_ne _ _ (by assumption)).trans (by assumption) | (simp only [AH.mp_put, AH.mp_setTok] at *; assumption)))))
        · simp only [hc, hi0, hdb, decide_eq_true c1, c3, decide_eq_false c3, hck, hck2, decide_eq_false hck2, hk0, hda, eqCells, F_law_DecisionWithdraws, g_law_DecisionWithdraws, go_sem, reduceIte, Nat.reduceEqDiff, Nat.reduceAdd, Nat.reduceMul, Nat.reduceSub, reduceCtorEq, Nat.reduceLeDiff, Nat.reduceLT, Int.reduceLT, Int.reduceLE, Int.reduceToNat, Int.reduceAdd, Int.reduceSub, Int.reduceNeg, Int.reduceMul, Int.reduceEq, ← Bool.decide_and, ← Bool.decide_or, ↓tq_n, ↓tq_e, ↓tq_r, ↓bq_n, ↓bq_e, ↓bq_r, ↓rq_n, ↓rq_r, ↓rq_e]
          refine ⟨by rw [inR64]; omega, by rw [inR64]; omega, i + 1, by omega, by omega, ?_⟩
          rw [hl2]
          exact (GStep.forget (by repeat' first | exact EnvLe.nil _ | refine EnvLe.cons (AV.le.of_eq rfl) ?_ | refine EnvLe.cons (AV.le.undef _) ?_ | refine EnvLe.cons AV.le.unk ?_) (by repeat' first | exact AH.le.refl _ | assumption | (refine AH.le_put ?_ (by first | assumption | exact (AH.blk_put_ne _ _ (by assumption)).trans (by assumption) | exact AH.none_put (by assumption) | exact AH.none_put (AH.none_put (by assumption)) | (simp only [AH.blk_setTok, AH.tok_put] at *; first | assumption | exact AH.none_put (by assumption)))) | (refine AH.le_setTok ?_ (by first | assumption | exact (AH.blk_put_ne _ _ (by assumption)).trans (by assumption) | exact AH.none_put (by assumption) | exact AH.none_put (AH.none_put (by assumption)) | (simp only [AH.blk_setTok, AH.tok_put] at *; first | assumption | exact AH.none_put (by assumption)))) | (refine AH.le_putM ?_ (by first | assumption | exact (AH.mp_putM_ne _ _ (by assumption)).trans (by assumption) | (simp only [AH.mp_put, AH.mp_setTok] at *; assumption)))))
      · simp only [hc, hi0, hdb, c1, decide_eq_false c1, hck, hck2, decide_eq_false hck2, hk0, hda, eqCells, F_law_DecisionWithdraws, g_law_DecisionWithdraws, go_sem, reduceIte, Nat.reduceEqDiff, Nat.reduceAdd, Nat.reduceMul, Nat.reduceSub, reduceCtorEq, Nat.reduceLeDiff, Nat.reduceLT, Int.reduceLT, Int.reduceLE, Int.reduceToNat, Int.reduceAdd, Int.reduceSub, Int.reduceNeg, Int.reduceMul, Int.reduceEq, ← Bool.decide_and, ← Bool.decide_or, ↓tq_n, ↓tq_e, ↓tq_r, ↓bq_n, ↓bq_e, ↓bq_r, ↓rq_n, ↓rq_r, ↓rq_e]
        refine ⟨by rw [inR64]; omega, by rw [inR64]; omega, i + 1, by omega, by omega, ?_⟩
        rw [hl2]
        exact (GStep.forget (by repeat' first | exact EnvLe.nil _ | refine EnvLe.cons (AV.le.of_eq rfl) ?_ | refine EnvLe.cons (AV.le.undef _) ?_ | refine EnvLe.cons AV.le.unk ?_) (by repeat' first | exact AH.le.refl _ | assumption | (refine AH.le_put ?_ (by first | assumption | exact (AH.blk_put_ne _ _ (by assumption)).trans (by assumption) | exact AH.none_put (by assumption) | exact AH.none_put (AH.none_put (by assumption)) | (simp only [AH.blk_setTok, AH.tok_put] at *; first | assumption | exact AH.none_put (by assumption)))) | (refine AH.le_setTok ?_ (by first | assumption | exact (AH.blk_put_ne _ _ (by assumption)).trans (by assumption) | exact AH.none_put (by assumption) | exact AH.none_put (AH.none_put (by assumption)) | (simp only [AH.blk_setTok, AH.tok_put] at *; first | assumption | exact AH.none_put (by assumption)))) | (refine AH.le_putM ?_ (by first | assumption | exact (AH.mp_putM_ne _ _ (by assumption)).trans (by assumption) | (simp only [AH.mp_put, AH.mp_setTok] at *; assumption)))))
  have h3 : i = B.length := by omega
  subst h3
  rw [← haf]
  have hle3 : ¬ (F.1.length : Int) < (A.length : Int) := by omega
  simp only [F_law_DecisionWithdraws, g_law_DecisionWithdraws, go_sem, reduceIte, Nat.reduceEqDiff, Nat.reduceAdd, Nat.reduceMul, Nat.reduceSub, reduceCtorEq, Nat.reduceLeDiff, Nat.reduceLT, Int.reduceLT, Int.reduceLE, Int.reduceToNat, Int.reduceAdd, Int.reduceSub, Int.reduceNeg, Int.reduceMul, Int.reduceEq, ← Bool.decide_and, ← Bool.decide_or, ↓tq_n, ↓tq_e, ↓tq_r, ↓bq_n, ↓bq_e, ↓bq_r, ↓rq_n, ↓rq_r, ↓rq_e]
  refine CallG.mk (r_decision_Ledger_Made la a1 a2 _ hok2 _ hkb) ?_
  simp only [lsD, srtD_len, hle3, decide_eq_false hle3, F_law_DecisionWithdraws, g_law_DecisionWithdraws, go_sem, reduceIte, Nat.reduceEqDiff, Nat.reduceAdd, Nat.reduceMul, Nat.reduceSub, reduceCtorEq, Nat.reduceLeDiff, Nat.reduceLT, Int.reduceLT, Int.reduceLE, Int.reduceToNat, Int.reduceAdd, Int.reduceSub, Int.reduceNeg, Int.reduceMul, Int.reduceEq, ← Bool.decide_and, ← Bool.decide_or, ↓tq_n, ↓tq_e, ↓tq_r, ↓bq_n, ↓bq_e, ↓bq_r, ↓rq_n, ↓rq_r, ↓rq_e]
  refine CallG.mk (r_decision_Ledger_Withdrawn la a1 a2 _ hok2 _ hkb) ?_
  simp only [lsM, F_law_DecisionWithdraws, g_law_DecisionWithdraws, go_sem, reduceIte, Nat.reduceEqDiff, Nat.reduceAdd, Nat.reduceMul, Nat.reduceSub, reduceCtorEq, Nat.reduceLeDiff, Nat.reduceLT, Int.reduceLT, Int.reduceLE, Int.reduceToNat, Int.reduceAdd, Int.reduceSub, Int.reduceNeg, Int.reduceMul, Int.reduceEq, ← Bool.decide_and, ← Bool.decide_or, ↓tq_n, ↓tq_e, ↓tq_r, ↓bq_n, ↓bq_e, ↓bq_r, ↓rq_n, ↓rq_r, ↓rq_e]
  have hA2 : A.length ≤ 200 := by have := hF.few.1; omega
  obtain ⟨V, hV⟩ : ∃ V, V = srtM W := ⟨_, rfl⟩
  have hVl : V.length ≤ 200 := by rw [hV, srtM_len]; exact hok2.few.2
  have hno2 : ∀ (i j : Nat), i < A.length → j < V.length → ¬ (V.getD j (0, 0)) = (A.getD i dD).mk2 := fun i j hi hj hh => by
    have h1 : V.getD j (0, 0) ∈ W := by rw [← mem_srtM, ← hV]; exact mem_getD hj
    exact hno _ (mem_getD hi) (by rw [← hh]; exact h1)
  rw [← hV]
  refine awp_loop (fun i : Nat => [(9, .sl (decide (srtD F.1 = [])) A.length (dcs A) .unk), (12, .sl (decide (V = [])) V.length (prs V) .unk), (13, I i)]) (fun _ => H) (fun i => i ≤ A.length) (fun i => A.length - i) 0 (Nat.zero_le _) (by rw [hV]; exact (GStep.forget (by repeat' first | exact EnvLe.nil _ | refine EnvLe.cons (AV.le.of_eq rfl) ?_ | refine EnvLe.cons (AV.le.undef _) ?_ | refine EnvLe.cons AV.le.unk ?_) (by repeat' first | exact AH.le.refl _ | assumption | (refine AH.le_put ?_ (by first | assumption | exact (AH.blk_put_ne _ _ (by assumption)).trans (by assumption) | exact AH.none_put (by assumption) | exact AH.none_put (AH.none_put (by assumption)) | (simp only [AH.blk_setTok, AH.tok_put] at *; first | assumption | exact AH.none_put (by assumption)))) | (refine AH.le_setTok ?_ (by first | assumption | exact (AH.blk_put_ne _ _ (by assumption)).trans (by assumption) | exact AH.none_put (by assumption) | exact AH.none_put (AH.none_put (by assumption)) | (simp only [AH.blk_setTok, AH.tok_put] at *; first | assumption | exact AH.none_put (by assumption)))) | (refine AH.le_putM ?_ (by first | assumption | exact (AH.mp_putM_ne _ _ (by assumption)).trans (by assumption) | (simp only [AH.mp_put, AH.mp_setTok] at *; assumption)))))) fun i hi => .of_vg hm ?_
  by_cases h3 : i < A.length
  case neg =>
    have h3 : i = A.length := by omega
    subst h3
    simp only [F_law_DecisionWithdraws, g_law_DecisionWithdraws, go_sem, reduceIte, Nat.reduceEqDiff, Nat.reduceAdd, Nat.reduceMul, Nat.reduceSub, reduceCtorEq, Nat.reduceLeDiff, Nat.reduceLT, Int.reduceLT, Int.reduceLE, Int.reduceToNat, Int.reduceAdd, Int.reduceSub, Int.reduceNeg, Int.reduceMul, Int.reduceEq, ← Bool.decide_and, ← Bool.decide_or, ↓tq_n, ↓tq_e, ↓tq_r, ↓bq_n, ↓bq_e, ↓bq_r, ↓rq_n, ↓rq_r, ↓rq_e]
    exact ret_le hle2 (AV.le.refl _)
  have hc : (i : Int) < (A.length : Int) := by omega
  have hi0 : (0 : Int) ≤ (i : Int) := by omega
  have hda := dcs_drop h3
  obtain ⟨d, hd⟩ : ∃ d, d = A.getD i dD := ⟨_, rfl⟩
  rw [← hd] at hda
  simp only [hc, F_law_DecisionWithdraws, g_law_DecisionWithdraws, go_sem, reduceIte, Nat.reduceEqDiff, Nat.reduceAdd, Nat.reduceMul, Nat.reduceSub, reduceCtorEq, Nat.reduceLeDiff, Nat.reduceLT, Int.reduceLT, Int.reduceLE, Int.reduceToNat, Int.reduceAdd, Int.reduceSub, Int.reduceNeg, Int.reduceMul, Int.reduceEq, ← Bool.decide_and, ← Bool.decide_or, ↓tq_n, ↓tq_e, ↓tq_r, ↓bq_n, ↓bq_e, ↓bq_r, ↓rq_n, ↓rq_r, ↓rq_e]
  refine awp_loop (fun j : Nat => [(9, .sl (decide (srtD F.1 = [])) A.length (dcs A) .unk), (12, .sl (decide (V = [])) V.length (prs V) .unk), (13, I i), (14, I j)]) (fun _ => H) (fun j => j ≤ V.length) (fun j => V.length - j) 0 (Nat.zero_le _) (GStep.forget (by repeat' first | exact EnvLe.nil _ | refine EnvLe.cons (AV.le.of_eq rfl) ?_ | refine EnvLe.cons (AV.le.undef _) ?_ | refine EnvLe.cons AV.le.unk ?_) (by repeat' first | exact AH.le.refl _ | assumption | (refine AH.le_put ?_ (by first | assumption | exact (AH.blk_put_ne _ _ (by assumption)).trans (by assumption) | exact AH.none_put (by assumption) | exact AH.none_put (AH.none_put (by assumption)) | (simp only [AH.blk_setTok, AH.tok_put] at *; first | assumption | exact AH.none_put (by assumption)))) | (refine AH.le_setTok ?_ (by first | assumption | exact (AH.blk_put_ne _ _ (by assumption)).trans (by assumption) | exact AH.none_put (by assumption) | exact AH.none_put (AH.none_put (by assumption)) | (simp only [AH.blk_setTok, AH.tok_put] at *; first | assumption | exact AH.none_put (by assumption)))) | (refine AH.le_putM ?_ (by first | assumption | exact (AH.mp_putM_ne _ _ (by assumption)).trans (by assumption) | (simp only [AH.mp_put, AH.mp_setTok] at *; assumption))))) fun j hj => .of_vg hm ?_
  by_cases h4 : j < V.length
  case neg =>
    have h4 : j = V.length := by omega
    subst h4
    simp only [F_law_DecisionWithdraws, g_law_DecisionWithdraws, go_sem, reduceIte, Nat.reduceEqDiff, Nat.reduceAdd, Nat.reduceMul, Nat.reduceSub, reduceCtorEq, Nat.reduceLeDiff, Nat.reduceLT, Int.reduceLT, Int.reduceLE, Int.reduceToNat, Int.reduceAdd, Int.reduceSub, Int.reduceNeg, Int.reduceMul, Int.reduceEq, ← Bool.decide_and, ← Bool.decide_or, ↓tq_n, ↓tq_e, ↓tq_r, ↓bq_n, ↓bq_e, ↓bq_r, ↓rq_n, ↓rq_r, ↓rq_e]
    exact ⟨by rw [inR64]; omega, i + 1, by omega, by omega, (GStep.forget (by repeat' first | exact EnvLe.nil _ | refine EnvLe.cons (AV.le.of_eq rfl) ?_ | refine EnvLe.cons (AV.le.undef _) ?_ | refine EnvLe.cons AV.le.unk ?_) (by repeat' first | exact AH.le.refl _ | assumption | (refine AH.le_put ?_ (by first | assumption | exact (AH.blk_put_ne _ _ (by assumption)).trans (by assumption) | exact AH.none_put (by assumption) | exact AH.none_put (AH.none_put (by assumption)) | (simp only [AH.blk_setTok, AH.tok_put] at *; first | assumption | exact AH.none_put (by assumption)))) | (refine AH.le_setTok ?_ (by first | assumption | exact (AH.blk_put_ne _ _ (by assumption)).trans (by assumption) | exact AH.none_put (by assumption) | exact AH.none_put (AH.none_put (by assumption)) | (simp only [AH.blk_setTok, AH.tok_put] at *; first | assumption | exact AH.none_put (by assumption)))) | (refine AH.le_putM ?_ (by first | assumption | exact (AH.mp_putM_ne _ _ (by assumption)).trans (by assumption) | (simp only [AH.mp_put, AH.mp_setTok] at *; assumption)))))⟩
  have hcj : (j : Int) < (V.length : Int) := by omega
  have hj0 : (0 : Int) ≤ (j : Int) := by omega
  have hdv := prs_drop h4
  have hn := hno2 i j h3 h4
  rw [← hd] at hn
  obtain ⟨v, hv⟩ : ∃ v, v = V.getD j (0, 0) := ⟨_, rfl⟩
  rw [← hv] at hdv hn
  have hn2 : ¬ (v.1 = d.au ∧ v.2 = d.nu) := fun hh => hn (Prod.ext hh.1 hh.2)
  simp only [hc, hcj, hi0, hj0, hda, hdv, eqCells, hn2, decide_eq_false hn2, F_law_DecisionWithdraws, g_law_DecisionWithdraws, go_sem, reduceIte, Nat.reduceEqDiff, Nat.reduceAdd, Nat.reduceMul, Nat.reduceSub, reduceCtorEq, Nat.reduceLeDiff, Nat.reduceLT, Int.reduceLT, Int.reduceLE, Int.reduceToNat, Int.reduceAdd, Int.reduceSub, Int.reduceNeg, Int.reduceMul, Int.reduceEq, ← Bool.decide_and, ← Bool.decide_or, ↓tq_n, ↓tq_e, ↓tq_r, ↓bq_n, ↓bq_e, ↓bq_r, ↓rq_n, ↓rq_r, ↓rq_e]
  exact ⟨by rw [inR64]; omega, j + 1, by omega, by omega, (GStep.forget (by repeat' first | exact EnvLe.nil _ | refine EnvLe.cons (AV.le.of_eq rfl) ?_ | refine EnvLe.cons (AV.le.undef _) ?_ | refine EnvLe.cons AV.le.unk ?_) (by repeat' first | exact AH.le.refl _ | assumption | (refine AH.le_put ?_ (by first | assumption | exact (AH.blk_put_ne _ _ (by assumption)).trans (by assumption) | exact AH.none_put (by assumption) | exact AH.none_put (AH.none_put (by assumption)) | (simp only [AH.blk_setTok, AH.tok_put] at *; first | assumption | exact AH.none_put (by assumption)))) | (refine AH.le_setTok ?_ (by first | assumption | exact (AH.blk_put_ne _ _ (by assumption)).trans (by assumption) | exact AH.none_put (by assumption) | exact AH.none_put (AH.none_put (by assumption)) | (simp only [AH.blk_setTok, AH.tok_put] at *; first | assumption | exact AH.none_put (by assumption)))) | (refine AH.le_putM ?_ (by first | assumption | exact (AH.mp_putM_ne _ _ (by assumption)).trans (by assumption) | (simp only [AH.mp_put, AH.mp_setTok] at *; assumption)))))⟩
end Go.Proofs.Ytcnmodnafnadlaa
