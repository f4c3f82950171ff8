/- The statement PrecedenceFollows as a call. No condition. -/
import Derived.Test.YtndcbompcnlhmaaD10
namespace Go.Proofs.Ytndcbompcnlhmaa
open Go Go.Abs
set_option linter.unusedSimpArgs false
set_option linter.unusedVariables false
set_option maxRecDepth 20000

theorem lsK_congr {r r' : List Nat} {i : Nat} : ∀ {k : Nat}, (∀ j, j < k → bt r i j = bt r' i j) → lsK r i k = lsK r' i k := by
  intro k
  induction k with
  | zero => intro _; rfl
  | succ k ih =>
    intro h
    rw [lsK, lsK, ih (fun j hj => h j (by omega)), h k (by omega)]
theorem lsI_congr {r r' : List Nat} (hl : r.length = r'.length) : ∀ {i : Nat}, (∀ a j, a < i → j < r.length → bt r a j = bt r' a j) → lsI r i = lsI r' i := by
  intro i
  induction i with
  | zero => intro _; rfl
  | succ i ih =>
    intro h
    rw [lsI, lsI, ih (fun a j ha hj => h a j (by omega) hj), ← hl, lsK_congr (fun j hj => h i j (by omega) hj)]
theorem clL_congr {l : List Spm} {c c' : List (Int × Int)} (h : gaE l c = 0) (h' : gaE l c' = 0) (hE : ∀ i j, Way (EP (pcs l c)) i j ↔ Way (EP (pcs l c')) i j) : clL l c = clL l c' := by
  unfold clL clI
  rw [lsI_congr (r := posR l.length (arcL (pcs l c))) (r' := posR l.length (arcL (pcs l c'))) (by rw [posR_len, posR_len]) fun a j ha hj => by
    rw [Bool.eq_iff_iff, reach_iff h ha, reach_iff h' ha]; exact hE a j]
theorem ep_mem {l : List Spm} {c : List (Int × Int)} {i j : Nat} : EP (pcs l c) i j ↔ (∃ s : Nat, s < 2 ∧ i < l.length ∧ j < l.length ∧ bfS (l.getD i dS) (l.getD j dS) s = true) ∨ ∃ q ∈ c, plc l q.1 = i ∧ plc l q.2 = j := by
  unfold EP
  constructor
  · rintro ⟨p, hp, e1, e2⟩
    rcases mem_pcs.1 hp with ⟨s, hs, a, k, h1, h2, h3, rfl⟩ | ⟨q, hq, rfl⟩
    · simp only at e1 e2
      have ea : a = i := by omega
      have ek : k = j := by omega
      subst ea; subst ek
      exact .inl ⟨s, hs, h1, h2, h3⟩
    · exact .inr ⟨q, hq, e1, e2⟩
  · rintro (⟨s, hs, h1, h2, h3⟩ | ⟨q, hq, e1, e2⟩)
    · exact ⟨_, mem_pcs.2 (.inl ⟨s, hs, i, j, h1, h2, h3, rfl⟩), rfl, rfl⟩
    · exact ⟨_, mem_pcs.2 (.inr ⟨q, hq, rfl⟩), e1, e2⟩
/-- Claims in another order, and one that follows. -/
theorem fol_rev {l : List Spm} {c : List (Int × Int)} (h : gaE l c = 0) : gaE l c.reverse = 0 ∧ clL l c = clL l c.reverse := by
  obtain ⟨h1, h2, h3, h4⟩ := ga_iff.1 h
  have h' : gaE l c.reverse = 0 := ga_iff.2 ⟨h1, h2, by simpa using h3, fun q hq => h4 q (by simpa using hq)⟩
  refine ⟨h', clL_congr h h' fun i j => ?_⟩
  have e : ∀ i j, EP (pcs l c) i j ↔ EP (pcs l c.reverse) i j := fun i j => by rw [ep_mem, ep_mem]; simp
  exact ⟨Way.mono fun _ _ hh => (e _ _).1 hh, Way.mono fun _ _ hh => (e _ _).2 hh⟩
theorem fol_add {l : List Spm} {c : List (Int × Int)} (h : gaE l c = 0) (h60 : c.length ≤ 60) {x : Int × Int} (hx : x ∈ clL l c) : gaE l (c.reverse ++ [x]) = 0 ∧ clL l c = clL l (c.reverse ++ [x]) := by
  obtain ⟨x1, x2⟩ := x
  obtain ⟨h1, h2, h3, h4⟩ := ga_iff.1 h
  obtain ⟨a, k, a1, a2, rfl, rfl⟩ := (mem_clL h).1 hx
  have hl := way_lt h a2
  have ea := plc_id h1 hl.1
  have ek := plc_id h1 hl.2
  have h' : gaE l (c.reverse ++ [((l.getD a dS).id, (l.getD k dS).id)]) = 0 := ga_iff.2 ⟨h1, h2, by simp; omega, fun q hq => by
    rcases List.mem_append.1 hq with hq | hq
    · exact h4 q (by simpa using hq)
    · simp at hq; subst hq
      simp only [← List.getD_eq_getElem?_getD]
      rw [ea, ek]
      exact ⟨⟨by omega, by omega⟩, by omega⟩⟩
  refine ⟨h', clL_congr h h' fun i j => ?_⟩
  have e : ∀ i j, EP (pcs l (c.reverse ++ [((l.getD a dS).id, (l.getD k dS).id)])) i j ↔ EP (pcs l c) i j ∨ (i = a ∧ j = k) := fun i j => by
    rw [ep_mem, ep_mem]
    constructor
    · rintro (hs | ⟨q, hq, e1, e2⟩)
      · exact .inl (.inl hs)
      · rcases List.mem_append.1 hq with hq | hq
        · exact .inl (.inr ⟨q, by simpa using hq, e1, e2⟩)
        · rw [List.mem_singleton] at hq; subst hq
          simp only at e1 e2
          rw [ea] at e1; rw [ek] at e2
          exact .inr ⟨by omega, by omega⟩
    · rintro ((hs | ⟨q, hq, e1, e2⟩) | ⟨rfl, rfl⟩)
      · exact .inl hs
      · exact .inr ⟨q, List.mem_append.2 (.inl (by simpa using hq)), e1, e2⟩
      · exact .inr ⟨_, List.mem_append.2 (.inr (List.mem_singleton.2 rfl)), ea, ek⟩
  constructor
  · exact Way.mono fun _ _ hh => (e _ _).2 (.inl hh)
  · intro hw
    rcases way_more e hw with hw | ⟨b1, b2⟩
    · exact hw
    · rcases b1 with rfl | b1 <;> rcases b2 with rfl | b2
      · exact a2
      · exact a2.trans b2
      · exact b1.trans a2
      · exact b1.trans (a2.trans b2)
theorem rev_drop {c : List (Int × Int)} {k : Nat} (h : k < c.length) : (c.drop k).reverse = (c.drop (k + 1)).reverse ++ [c.getD k (0, 0)] := by
  rw [getD_drop c (0, 0) h, List.reverse_cons]
theorem inR8 {n : Int} : InR .u8 n ↔ 0 ≤ n ∧ n ≤ 255 := by
  simp [InR, IntKind.min, IntKind.max, IntKind.signed, IntKind.bits]
set_option maxHeartbeats 4000000 in
theorem r_law_PrecedenceFollows (n1 : Bool) (l : List Spm) (u1 : Tail) (n2 : Bool) (c : List (Int × Int)) (u2 : Tail) (at_ : Int) (h : AH) : RCall Try.prog n_law_PrecedenceFollows [.sl n1 l.length (sms l) u1, .sl n2 c.length (prs c) u2, .int .u8 at_] h (.bool true) := by
  refine RCall.of hm cF_law_PrecedenceFollows (by simp [g_law_PrecedenceFollows]) fun hw h' hl => ?_
  have hat := wf_int (hw _ (.tail _ (.tail _ (.head _))))
  rw [inR8] at hat
  simp only [F_law_PrecedenceFollows, g_law_PrecedenceFollows, go_sem, reduceIte, Nat.reduceEqDiff, Nat.reduceAdd, Nat.reduceMul, Nat.reduceSub, reduceCtorEq, Nat.reduceLeDiff, Nat.reduceLT, Int.reduceLT, Int.reduceLE, Int.reduceToNat, Int.reduceAdd, Int.reduceSub, Int.reduceNeg, Int.reduceMul, Int.reduceEq, ← Bool.decide_and, ← Bool.decide_or, ↓tq_n, ↓tq_e, ↓tq_r, ↓bq_n, ↓bq_e, ↓bq_r, ↓rq_n, ↓rq_r, ↓rq_e]
  refine CallG.mk (r_law_awake _) ?_
  simp only [F_law_PrecedenceFollows, g_law_PrecedenceFollows, go_sem, reduceIte, Nat.reduceEqDiff, Nat.reduceAdd, Nat.reduceMul, Nat.reduceSub, reduceCtorEq, Nat.reduceLeDiff, Nat.reduceLT, Int.reduceLT, Int.reduceLE, Int.reduceToNat, Int.reduceAdd, Int.reduceSub, Int.reduceNeg, Int.reduceMul, Int.reduceEq, ← Bool.decide_and, ← Bool.decide_or, ↓tq_n, ↓tq_e, ↓tq_r, ↓bq_n, ↓bq_e, ↓bq_r, ↓rq_n, ↓rq_r, ↓rq_e]
  refine CallG.mk (r_law_few n1 l u1 n2 c u2 _) ?_
  cases hf : fwC l c with
  | false =>
    simp only [F_law_PrecedenceFollows, g_law_PrecedenceFollows, go_sem, reduceIte, Nat.reduceEqDiff, Nat.reduceAdd, Nat.reduceMul, Nat.reduceSub, reduceCtorEq, Nat.reduceLeDiff, Nat.reduceLT, Int.reduceLT, Int.reduceLE, Int.reduceToNat, Int.reduceAdd, Int.reduceSub, Int.reduceNeg, Int.reduceMul, Int.reduceEq, ← Bool.decide_and, ← Bool.decide_or, ↓tq_n, ↓tq_e, ↓tq_r, ↓bq_n, ↓bq_e, ↓bq_r, ↓rq_n, ↓rq_r, ↓rq_e]
    refine CallG.mk (r_law_awake _) ?_
    simp only [F_law_PrecedenceFollows, g_law_PrecedenceFollows, go_sem, reduceIte, Nat.reduceEqDiff, Nat.reduceAdd, Nat.reduceMul, Nat.reduceSub, reduceCtorEq, Nat.reduceLeDiff, Nat.reduceLT, Int.reduceLT, Int.reduceLE, Int.reduceToNat, Int.reduceAdd, Int.reduceSub, Int.reduceNeg, Int.reduceMul, Int.reduceEq, ← Bool.decide_and, ← Bool.decide_or, ↓tq_n, ↓tq_e, ↓tq_r, ↓bq_n, ↓bq_e, ↓bq_r, ↓rq_n, ↓rq_r, ↓rq_e]
    exact ret_ok rfl
  | true =>
    by_cases h6 : (60 : Int) < (c.length : Int)
    · simp only [h6, F_law_PrecedenceFollows, g_law_PrecedenceFollows, go_sem, reduceIte, Nat.reduceEqDiff, Nat.reduceAdd, Nat.reduceMul, Nat.reduceSub, reduceCtorEq, Nat.reduceLeDiff, Nat.reduceLT, Int.reduceLT, Int.reduceLE, Int.reduceToNat, Int.reduceAdd, Int.reduceSub, Int.reduceNeg, Int.reduceMul, Int.reduceEq, ← Bool.decide_and, ← Bool.decide_or, ↓tq_n, ↓tq_e, ↓tq_r, ↓bq_n, ↓bq_e, ↓bq_r, ↓rq_n, ↓rq_r, ↓rq_e]
      refine CallG.mk (r_law_awake _) ?_
      simp only [F_law_PrecedenceFollows, g_law_PrecedenceFollows, go_sem, reduceIte, Nat.reduceEqDiff, Nat.reduceAdd, Nat.reduceMul, Nat.reduceSub, reduceCtorEq, Nat.reduceLeDiff, Nat.reduceLT, Int.reduceLT, Int.reduceLE, Int.reduceToNat, Int.reduceAdd, Int.reduceSub, Int.reduceNeg, Int.reduceMul, Int.reduceEq, ← Bool.decide_and, ← Bool.decide_or, ↓tq_n, ↓tq_e, ↓tq_r, ↓bq_n, ↓bq_e, ↓bq_r, ↓rq_n, ↓rq_r, ↓rq_e]
      exact ret_ok rfl
    simp only [h6, F_law_PrecedenceFollows, g_law_PrecedenceFollows, go_sem, reduceIte, Nat.reduceEqDiff, Nat.reduceAdd, Nat.reduceMul, Nat.reduceSub, reduceCtorEq, Nat.reduceLeDiff, Nat.reduceLT, Int.reduceLT, Int.reduceLE, Int.reduceToNat, Int.reduceAdd, Int.reduceSub, Int.reduceNeg, Int.reduceMul, Int.reduceEq, ← Bool.decide_and, ← Bool.decide_or, ↓tq_n, ↓tq_e, ↓tq_r, ↓bq_n, ↓bq_e, ↓bq_r, ↓rq_n, ↓rq_r, ↓rq_e]
    refine CallG.mk (r_precedence_Closed n1 l u1 n2 c u2 _) ?_
    by_cases d1 : gaE l c = 0
    case neg =>
      rw [clV_no d1]
      have hz : ((0 : Nat) : Int) = 0 := rfl
      simp only [d1, hz, F_law_PrecedenceFollows, g_law_PrecedenceFollows, go_sem, reduceIte, Nat.reduceEqDiff, Nat.reduceAdd, Nat.reduceMul, Nat.reduceSub, reduceCtorEq, Nat.reduceLeDiff, Nat.reduceLT, Int.reduceLT, Int.reduceLE, Int.reduceToNat, Int.reduceAdd, Int.reduceSub, Int.reduceNeg, Int.reduceMul, Int.reduceEq, ← Bool.decide_and, ← Bool.decide_or, ↓tq_n, ↓tq_e, ↓tq_r, ↓bq_n, ↓bq_e, ↓bq_r, ↓rq_n, ↓rq_r, ↓rq_e]
      exact ret_ok rfl
    rw [clV_yes d1]
    have hcl := clL_len c (ga_ok d1).1
    obtain ⟨A, hA⟩ : ∃ A, A = clL l c := ⟨_, rfl⟩
    rw [← hA] at hcl ⊢
    simp only [F_law_PrecedenceFollows, g_law_PrecedenceFollows, go_sem, reduceIte, Nat.reduceEqDiff, Nat.reduceAdd, Nat.reduceMul, Nat.reduceSub, reduceCtorEq, Nat.reduceLeDiff, Nat.reduceLT, Int.reduceLT, Int.reduceLE, Int.reduceToNat, Int.reduceAdd, Int.reduceSub, Int.reduceNeg, Int.reduceMul, Int.reduceEq, ← Bool.decide_and, ← Bool.decide_or, ↓tq_n, ↓tq_e, ↓tq_r, ↓bq_n, ↓bq_e, ↓bq_r, ↓rq_n, ↓rq_r, ↓rq_e]
    refine ⟨by rw [inR64]; omega, ?_⟩
    refine awp_tok 9 2 (nl := true) (n := 0) (cs := []) rfl fun t ht => ?_
    refine awp_loop (fun k : Nat => [(0, .sl n1 l.length (sms l) u1), (1, .sl n2 c.length (prs c) u2), (2, .int .u8 at_), (7, .sl (decide (A.length = 0)) A.length (prs A) .unk), (9, gl (prs (c.drop k).reverse) (c.drop k).reverse.length (.tok t)), (10, I ((k : Int) - 1))]) (fun k => h'.setTok t (c.drop k).reverse.length 2) (fun k => k ≤ c.length) (fun k => k) c.length (Nat.le_refl _) ?_ fun k hk => .of_vg hm ?_
    · rw [List.drop_length]
      exact (GStep.forget (by repeat' first | exact EnvLe.nil _ | refine EnvLe.cons (AV.le.of_eq rfl) ?_ | refine EnvLe.cons (AV.le.undef _) ?_ | refine EnvLe.cons AV.le.unk ?_) (by repeat' first | exact AH.le.refl _ | assumption | (refine AH.le_put ?_ (by first | assumption | exact (AH.blk_put_ne _ _ (by assumption)).trans (by assumption) | exact AH.none_put (by assumption) | exact AH.none_put (AH.none_put (by assumption)) | (simp only [AH.blk_setTok, AH.tok_put] at *; first | assumption | exact AH.none_put (by assumption)))) | (refine AH.le_setTok ?_ (by first | assumption | exact (AH.blk_put_ne _ _ (by assumption)).trans (by assumption) | exact AH.none_put (by assumption) | exact AH.none_put (AH.none_put (by assumption)) | (simp only [AH.blk_setTok, AH.tok_put] at *; first | assumption | exact AH.none_put (by assumption)))) | (refine AH.le_putM ?_ (by first | assumption | exact (AH.mp_putM_ne _ _ (by assumption)).trans (by assumption) | (simp only [AH.mp_put, AH.mp_setTok] at *; assumption)))))
    by_cases h3 : 0 < k
    · obtain ⟨m, rfl⟩ : ∃ m, k = m + 1 := ⟨k - 1, by omega⟩
      have hkm : ((m + 1 : Nat) : Int) - 1 = (m : Int) := by omega
      have hc0 : (0 : Int) ≤ (m : Int) := by omega
      have hml : m < c.length := by omega
      have hmc : (m : Int) < (c.length : Int) := by omega
      have hrd := rev_drop hml
      have hln : (c.drop (m + 1)).reverse.length ≤ 60 := by simp; omega
      obtain ⟨R, hR⟩ : ∃ R, R = (c.drop (m + 1)).reverse := ⟨_, rfl⟩
      rw [← hR] at hrd hln ⊢
      rw [hkm]
      simp only [hc0, hmc, prs_drop hml, F_law_PrecedenceFollows, g_law_PrecedenceFollows, go_sem, reduceIte, Nat.reduceEqDiff, Nat.reduceAdd, Nat.reduceMul, Nat.reduceSub, reduceCtorEq, Nat.reduceLeDiff, Nat.reduceLT, Int.reduceLT, Int.reduceLE, Int.reduceToNat, Int.reduceAdd, Int.reduceSub, Int.reduceNeg, Int.reduceMul, Int.reduceEq, ← Bool.decide_and, ← Bool.decide_or, ↓tq_n, ↓tq_e, ↓tq_r, ↓bq_n, ↓bq_e, ↓bq_r, ↓rq_n, ↓rq_r, ↓rq_e]
      refine ⟨by rw [prs_len], by omega, by omega, by rw [inR64]; omega, m, by omega, by omega, ?_⟩
      rw [hrd, prs_snoc1, List.length_append]
      exact (GStep.forget (by repeat' first | exact EnvLe.nil _ | refine EnvLe.cons (AV.le.of_eq rfl) ?_ | refine EnvLe.cons (AV.le.undef _) ?_ | refine EnvLe.cons AV.le.unk ?_) (by repeat' first | exact AH.le.refl _ | assumption | (refine AH.le_put ?_ (by first | assumption | exact (AH.blk_put_ne _ _ (by assumption)).trans (by assumption) | exact AH.none_put (by assumption) | exact AH.none_put (AH.none_put (by assumption)) | (simp only [AH.blk_setTok, AH.tok_put] at *; first | assumption | exact AH.none_put (by assumption)))) | (refine AH.le_setTok ?_ (by first | assumption | exact (AH.blk_put_ne _ _ (by assumption)).trans (by assumption) | exact AH.none_put (by assumption) | exact AH.none_put (AH.none_put (by assumption)) | (simp only [AH.blk_setTok, AH.tok_put] at *; first | assumption | exact AH.none_put (by assumption)))) | (refine AH.le_putM ?_ (by first | assumption | exact (AH.mp_putM_ne _ _ (by assumption)).trans (by assumption) | (simp only [AH.mp_put, AH.mp_setTok] at *; assumption)))))
    have h3 : k = 0 := by omega
    subst h3
    have hneg : ¬ (0 : Int) ≤ ((0 : Nat) : Int) - 1 := by omega
    rw [List.drop_zero]
    by_cases h4 : (0 : Int) < (A.length : Int)
    · obtain ⟨k, hk⟩ : ∃ k, k = at_.toNat % A.length := ⟨_, rfl⟩
      have hkl : k < A.length := by rw [hk]; exact Nat.mod_lt _ (by omega)
      have hconv : IntKind.wrap .i64 at_ = at_ := wrap_in (by rw [inR64]; omega)
      have hrem : Int.tmod at_ (A.length : Int) = (k : Int) := by
        have e1 : ((at_.toNat % A.length : Nat) : Int) = (at_.toNat : Int) % (A.length : Int) := by first | exact Int.natCast_emod _ _ | exact Int.ofNat_emod _ _ | simp
        rw [hk, e1, Int.tmod_eq_emod_of_nonneg (by omega), show (at_.toNat : Int) = at_ by omega]
      have hk0 : (0 : Int) ≤ (k : Int) := by omega
      have hkc : (k : Int) < (A.length : Int) := by omega
      obtain ⟨f1, f2⟩ := fol_add d1 (by omega) (x := A.getD k (0, 0)) (by rw [← hA]; exact mem_getD hkl)
      rw [← hA] at f2
      simp only [hneg, h4, hconv, hrem, hk0, hkc, prs_drop hkl, F_law_PrecedenceFollows, g_law_PrecedenceFollows, go_sem, reduceIte, Nat.reduceEqDiff, Nat.reduceAdd, Nat.reduceMul, Nat.reduceSub, reduceCtorEq, Nat.reduceLeDiff, Nat.reduceLT, Int.reduceLT, Int.reduceLE, Int.reduceToNat, Int.reduceAdd, Int.reduceSub, Int.reduceNeg, Int.reduceMul, Int.reduceEq, ← Bool.decide_and, ← Bool.decide_or, ↓tq_n, ↓tq_e, ↓tq_r, ↓bq_n, ↓bq_e, ↓bq_r, ↓rq_n, ↓rq_r, ↓rq_e]
      have hrl : c.reverse.length = c.length := List.length_reverse
      have hcc := few_bd hf
      refine ⟨by omega, by rw [prs_len], by omega, by omega, ?_⟩
      have e := r_precedence_Closed n1 l u1 (decide (c.reverse.length + 1 = 0)) (c.reverse ++ [A.getD k (0, 0)]) (.tok t) (h'.setTok t (c.reverse.length + 1) 2)
      rw [List.length_append, prs_snoc1, clV_yes f1, ← f2] at e
      refine CallG.mk e ?_
      simp only [F_law_PrecedenceFollows, g_law_PrecedenceFollows, go_sem, reduceIte, Nat.reduceEqDiff, Nat.reduceAdd, Nat.reduceMul, Nat.reduceSub, reduceCtorEq, Nat.reduceLeDiff, Nat.reduceLT, Int.reduceLT, Int.reduceLE, Int.reduceToNat, Int.reduceAdd, Int.reduceSub, Int.reduceNeg, Int.reduceMul, Int.reduceEq, ← Bool.decide_and, ← Bool.decide_or, ↓tq_n, ↓tq_e, ↓tq_r, ↓bq_n, ↓bq_e, ↓bq_r, ↓rq_n, ↓rq_r, ↓rq_e]
      refine CallG.mk (r_base_Pairs _ A .unk _ A .unk _) ?_
      rw [decide_eq_true rfl]
      simp only [F_law_PrecedenceFollows, g_law_PrecedenceFollows, go_sem, reduceIte, Nat.reduceEqDiff, Nat.reduceAdd, Nat.reduceMul, Nat.reduceSub, reduceCtorEq, Nat.reduceLeDiff, Nat.reduceLT, Int.reduceLT, Int.reduceLE, Int.reduceToNat, Int.reduceAdd, Int.reduceSub, Int.reduceNeg, Int.reduceMul, Int.reduceEq, ← Bool.decide_and, ← Bool.decide_or, ↓tq_n, ↓tq_e, ↓tq_r, ↓bq_n, ↓bq_e, ↓bq_r, ↓rq_n, ↓rq_r, ↓rq_e]
      exact ret_hb (by repeat' first | exact AH.le.refl _ | assumption | (refine AH.le_put ?_ (by first | assumption | exact (AH.blk_put_ne _ _ (by assumption)).trans (by assumption) | exact AH.none_put (by assumption) | exact AH.none_put (AH.none_put (by assumption)) | (simp only [AH.blk_setTok, AH.tok_put] at *; first | assumption | exact AH.none_put (by assumption)))) | (refine AH.le_setTok ?_ (by first | assumption | exact (AH.blk_put_ne _ _ (by assumption)).trans (by assumption) | exact AH.none_put (by assumption) | exact AH.none_put (AH.none_put (by assumption)) | (simp only [AH.blk_setTok, AH.tok_put] at *; first | assumption | exact AH.none_put (by assumption)))) | (refine AH.le_putM ?_ (by first | assumption | exact (AH.mp_putM_ne _ _ (by assumption)).trans (by assumption) | (simp only [AH.mp_put, AH.mp_setTok] at *; assumption)))) rfl
    · have hA0 : A = [] := List.eq_nil_of_length_eq_zero (by omega)
      obtain ⟨f1, f2⟩ := fol_rev d1
      rw [← hA] at f2
      simp only [hneg, h4, F_law_PrecedenceFollows, g_law_PrecedenceFollows, go_sem, reduceIte, Nat.reduceEqDiff, Nat.reduceAdd, Nat.reduceMul, Nat.reduceSub, reduceCtorEq, Nat.reduceLeDiff, Nat.reduceLT, Int.reduceLT, Int.reduceLE, Int.reduceToNat, Int.reduceAdd, Int.reduceSub, Int.reduceNeg, Int.reduceMul, Int.reduceEq, ← Bool.decide_and, ← Bool.decide_or, ↓tq_n, ↓tq_e, ↓tq_r, ↓bq_n, ↓bq_e, ↓bq_r, ↓rq_n, ↓rq_r, ↓rq_e]
      have e := r_precedence_Closed n1 l u1 (decide (c.reverse.length = 0)) c.reverse (.tok t) (h'.setTok t c.reverse.length 2)
      rw [clV_yes f1, ← f2] at e
      refine CallG.mk e ?_
      simp only [F_law_PrecedenceFollows, g_law_PrecedenceFollows, go_sem, reduceIte, Nat.reduceEqDiff, Nat.reduceAdd, Nat.reduceMul, Nat.reduceSub, reduceCtorEq, Nat.reduceLeDiff, Nat.reduceLT, Int.reduceLT, Int.reduceLE, Int.reduceToNat, Int.reduceAdd, Int.reduceSub, Int.reduceNeg, Int.reduceMul, Int.reduceEq, ← Bool.decide_and, ← Bool.decide_or, ↓tq_n, ↓tq_e, ↓tq_r, ↓bq_n, ↓bq_e, ↓bq_r, ↓rq_n, ↓rq_r, ↓rq_e]
      refine CallG.mk (r_base_Pairs _ A .unk _ A .unk _) ?_
      rw [decide_eq_true rfl]
      simp only [F_law_PrecedenceFollows, g_law_PrecedenceFollows, go_sem, reduceIte, Nat.reduceEqDiff, Nat.reduceAdd, Nat.reduceMul, Nat.reduceSub, reduceCtorEq, Nat.reduceLeDiff, Nat.reduceLT, Int.reduceLT, Int.reduceLE, Int.reduceToNat, Int.reduceAdd, Int.reduceSub, Int.reduceNeg, Int.reduceMul, Int.reduceEq, ← Bool.decide_and, ← Bool.decide_or, ↓tq_n, ↓tq_e, ↓tq_r, ↓bq_n, ↓bq_e, ↓bq_r, ↓rq_n, ↓rq_r, ↓rq_e]
      exact ret_hb (by repeat' first | exact AH.le.refl _ | assumption | (refine AH.le_put ?_ (by first | assumption | exact (AH.blk_put_ne _ _ (by assumption)).trans (by assumption) | exact AH.none_put (by assumption) | exact AH.none_put (AH.none_put (by assumption)) | (simp only [AH.blk_setTok, AH.tok_put] at *; first | assumption | exact AH.none_put (by assumption)))) | (refine AH.le_setTok ?_ (by first | assumption | exact (AH.blk_put_ne _ _ (by assumption)).trans (by assumption) | exact AH.none_put (by assumption) | exact AH.none_put (AH.none_put (by assumption)) | (simp only [AH.blk_setTok, AH.tok_put] at *; first | assumption | exact AH.none_put (by assumption)))) | (refine AH.le_putM ?_ (by first | assumption | exact (AH.mp_putM_ne _ _ (by assumption)).trans (by assumption) | (simp only [AH.mp_put, AH.mp_setTok] at *; assumption)))) rfl
end Go.Proofs.Ytndcbompcnlhmaa
