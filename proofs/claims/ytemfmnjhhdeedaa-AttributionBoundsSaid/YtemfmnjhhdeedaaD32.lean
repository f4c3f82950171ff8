/- The statement AttributionBounds as a call. No condition. -/
import Derived.Test.YtemfmnjhhdeedaaD31

namespace Go.Proofs.Ytemfmnjhhdeedaa
open Go Go.Abs
set_option linter.unusedSimpArgs false
set_option linter.unusedVariables false
set_option maxRecDepth 20000

theorem pk_len {n : Nat} {a : List (Int × Int)} {w : List Int} : ∀ (f : Nat) (left : List Int), (pkF n a w f left).1.length ≤ f := by
  intro f
  induction f with
  | zero => intro left; simp [pkF]
  | succ f ih =>
    intro left
    cases hs : smF (sub a left) n with
    | none => rw [pkF_none hs]; simp
    | some s => rw [pkF_some hs]; simp only [List.length_cons]; have := ih (rmv left (pick left s)); omega
theorem flat_succ {O : List (List Int)} {i : Nat} (h : i < O.length) : (O.take (i + 1)).flatten = (O.take i).flatten ++ O.getD i [] := by
  rw [take_getD [] h, List.flatten_append]; simp
set_option maxHeartbeats 4000000 in
theorem r_law_AttributionBounds (c : Cs) (n3 : Bool) (r : List Int) (u3 : Tail) (h : AH) : RCall Try.prog n_law_AttributionBounds [.st c.cs, .sl n3 r.length (i64s r) u3] h (.bool true) := by
  obtain ⟨n, n1, a, u1, n2, w, u2⟩ := c
  simp only [Cs.cs]
  refine RCall.of hm cF_law_AttributionBounds (by simp [g_law_AttributionBounds]) fun hw h' hl => ?_
  simp only [F_law_AttributionBounds, g_law_AttributionBounds, go_sem, reduceIte, Nat.reduceEqDiff, Nat.reduceAdd, Nat.reduceMul, Nat.reduceSub, reduceCtorEq, Nat.reduceLeDiff, Nat.reduceLT, Int.reduceLT, Int.reduceLE, Int.reduceToNat, Int.reduceAdd, Int.reduceSub, Int.reduceNeg, Int.reduceMul, Int.reduceEq, ← Bool.decide_and, ← Bool.decide_or, ↓tq_n, ↓tq_e, ↓tq_r, ↓bq_n, ↓bq_e, ↓bq_r, ↓rq_n, ↓rq_r, ↓rq_e]
  refine CallG.mk (r_law_awake _) ?_
  simp only [F_law_AttributionBounds, g_law_AttributionBounds, go_sem, reduceIte, Nat.reduceEqDiff, Nat.reduceAdd, Nat.reduceMul, Nat.reduceSub, reduceCtorEq, Nat.reduceLeDiff, Nat.reduceLT, Int.reduceLT, Int.reduceLE, Int.reduceToNat, Int.reduceAdd, Int.reduceSub, Int.reduceNeg, Int.reduceMul, Int.reduceEq, ← Bool.decide_and, ← Bool.decide_or, ↓tq_n, ↓tq_e, ↓tq_r, ↓bq_n, ↓bq_e, ↓bq_r, ↓rq_n, ↓rq_r, ↓rq_e]
  refine CallG.mk (r_law_few n n1 a u1 n2 w u2 _) ?_
  cases hf : fewC n a w with
  | false =>
    simp only [F_law_AttributionBounds, g_law_AttributionBounds, go_sem, reduceIte, Nat.reduceEqDiff, Nat.reduceAdd, Nat.reduceMul, Nat.reduceSub, reduceCtorEq, Nat.reduceLeDiff, Nat.reduceLT, Int.reduceLT, Int.reduceLE, Int.reduceToNat, Int.reduceAdd, Int.reduceSub, Int.reduceNeg, Int.reduceMul, Int.reduceEq, ← Bool.decide_and, ← Bool.decide_or, ↓tq_n, ↓tq_e, ↓tq_r, ↓bq_n, ↓bq_e, ↓bq_r, ↓rq_n, ↓rq_r, ↓rq_e]
    refine CallG.mk (r_law_awake _) ?_
    simp only [F_law_AttributionBounds, g_law_AttributionBounds, go_sem, reduceIte, Nat.reduceEqDiff, Nat.reduceAdd, Nat.reduceMul, Nat.reduceSub, reduceCtorEq, Nat.reduceLeDiff, Nat.reduceLT, Int.reduceLT, Int.reduceLE, Int.reduceToNat, Int.reduceAdd, Int.reduceSub, Int.reduceNeg, Int.reduceMul, Int.reduceEq, ← Bool.decide_and, ← Bool.decide_or, ↓tq_n, ↓tq_e, ↓tq_r, ↓bq_n, ↓bq_e, ↓bq_r, ↓rq_n, ↓rq_r, ↓rq_e]
    exact ret_ok rfl
  | true =>
    by_cases h5 : (50 : Int) < (r.length : Int)
    · simp only [h5, F_law_AttributionBounds, g_law_AttributionBounds, go_sem, reduceIte, Nat.reduceEqDiff, Nat.reduceAdd, Nat.reduceMul, Nat.reduceSub, reduceCtorEq, Nat.reduceLeDiff, Nat.reduceLT, Int.reduceLT, Int.reduceLE, Int.reduceToNat, Int.reduceAdd, Int.reduceSub, Int.reduceNeg, Int.reduceMul, Int.reduceEq, ← Bool.decide_and, ← Bool.decide_or, ↓tq_n, ↓tq_e, ↓tq_r, ↓bq_n, ↓bq_e, ↓bq_r, ↓rq_n, ↓rq_r, ↓rq_e]
      refine CallG.mk (r_law_awake _) ?_
      simp only [F_law_AttributionBounds, g_law_AttributionBounds, go_sem, reduceIte, Nat.reduceEqDiff, Nat.reduceAdd, Nat.reduceMul, Nat.reduceSub, reduceCtorEq, Nat.reduceLeDiff, Nat.reduceLT, Int.reduceLT, Int.reduceLE, Int.reduceToNat, Int.reduceAdd, Int.reduceSub, Int.reduceNeg, Int.reduceMul, Int.reduceEq, ← Bool.decide_and, ← Bool.decide_or, ↓tq_n, ↓tq_e, ↓tq_r, ↓bq_n, ↓bq_e, ↓bq_r, ↓rq_n, ↓rq_r, ↓rq_e]
      exact ret_ok rfl
    simp only [h5, F_law_AttributionBounds, g_law_AttributionBounds, go_sem, reduceIte, Nat.reduceEqDiff, Nat.reduceAdd, Nat.reduceMul, Nat.reduceSub, reduceCtorEq, Nat.reduceLeDiff, Nat.reduceLT, Int.reduceLT, Int.reduceLE, Int.reduceToNat, Int.reduceAdd, Int.reduceSub, Int.reduceNeg, Int.reduceMul, Int.reduceEq, ← Bool.decide_and, ← Bool.decide_or, ↓tq_n, ↓tq_e, ↓tq_r, ↓bq_n, ↓bq_e, ↓bq_r, ↓rq_n, ↓rq_r, ↓rq_e]
    refine CallG.mk (r_attribution_PackingM n n1 a u1 n2 w u2 _) ?_
    by_cases c1 : chkE n a w = 0
    case neg =>
      have e1 : pkV n a w = .tup [.sl true 0 [] .full, I 0, I (chkE n a w)] := by unfold pkV; rw [if_neg c1]
      rw [e1]
      have hz : ((0 : Nat) : Int) = 0 := rfl
      simp only [c1, hz, F_law_AttributionBounds, g_law_AttributionBounds, go_sem, reduceIte, Nat.reduceEqDiff, Nat.reduceAdd, Nat.reduceMul, Nat.reduceSub, reduceCtorEq, Nat.reduceLeDiff, Nat.reduceLT, Int.reduceLT, Int.reduceLE, Int.reduceToNat, Int.reduceAdd, Int.reduceSub, Int.reduceNeg, Int.reduceMul, Int.reduceEq, ← Bool.decide_and, ← Bool.decide_or, ↓tq_n, ↓tq_e, ↓tq_r, ↓bq_n, ↓bq_e, ↓bq_r, ↓rq_n, ↓rq_r, ↓rq_e]
      exact ret_ok rfl
    have hok := chk_ok.1 c1
    obtain ⟨m, rfl⟩ := ev_nat hok.2.2.1
    have he := hok.2.2.1
    obtain ⟨all, hall⟩ : ∃ all, all = nats (List.range a.length) := ⟨_, rfl⟩
    have hv : pkV m a w = .tup [gl (lls (pkF m a w a.length all).1) (pkF m a w a.length all).1.length .unk, I (pkF m a w a.length all).2, I 0] := by
      unfold pkV; rw [if_pos c1, Int.toNat_natCast, hall]
    rw [hv]
    obtain ⟨q1, q2⟩ := pk_all he w a.length all (by rw [hall]; exact all_ix _)
    simp only [F_law_AttributionBounds, g_law_AttributionBounds, go_sem, reduceIte, Nat.reduceEqDiff, Nat.reduceAdd, Nat.reduceMul, Nat.reduceSub, reduceCtorEq, Nat.reduceLeDiff, Nat.reduceLT, Int.reduceLT, Int.reduceLE, Int.reduceToNat, Int.reduceAdd, Int.reduceSub, Int.reduceNeg, Int.reduceMul, Int.reduceEq, ← Bool.decide_and, ← Bool.decide_or, ↓tq_n, ↓tq_e, ↓tq_r, ↓bq_n, ↓bq_e, ↓bq_r, ↓rq_n, ↓rq_r, ↓rq_e]
    obtain ⟨O, hO⟩ : ∃ O, O = (pkF m a w a.length all).1 := ⟨_, rfl⟩
    obtain ⟨b, hb⟩ : ∃ b, b = (pkF m a w a.length all).2 := ⟨_, rfl⟩
    rw [← hO] at q1 q2 ⊢
    rw [← hb]
    have hbd := few_bd hf
    have hw0 : ∀ k, 0 ≤ w.getD k 0 := fun k => by
      by_cases hk : k < a.length
      · exact (okc_w1 hok).ok k hk
      · rw [List.getD_eq_getElem?_getD, List.getElem?_eq_none (by have := hok.2.2.2.1; omega)]; exact Int.le_refl _
    refine awp_tok 8 1 (nl := true) (n := 0) (cs := []) rfl fun t ht => ?_
    refine awp_loop (fun i : Nat => [(1, .sl n3 r.length (i64s r) u3), (2, .sptr [I m, .sl n1 a.length (prs a) u1, .sl n2 w.length (i64s w) u2]), (5, gl (lls O) O.length .unk), (6, I b), (8, gl (i64s (O.take i).flatten) (O.take i).flatten.length (.tok t)), (9, I i)]) (fun i => h'.setTok t (O.take i).flatten.length 1) (fun i => i ≤ O.length) (fun i => O.length - i) 0 (Nat.zero_le _) (GStep.forget (by repeat' first | exact EnvLe.nil _ | refine EnvLe.cons (AV.le.of_eq rfl) ?_ | refine EnvLe.cons (AV.le.undef _) ?_ | refine EnvLe.cons AV.le.unk ?_) (by repeat' first | exact AH.le.refl _ | assumption | (refine AH.le_put ?_ (by first | assumption | exact (AH.blk_put_ne _ _ (by assumption)).trans (by assumption) | exact AH.none_put (by assumption) | exact AH.none_put (AH.none_put (by assumption)) | (simp only [AH.blk_setTok, AH.tok_put] at *; first | assumption | exact AH.none_put (by assumption)))) | (refine AH.le_setTok ?_ (by first | assumption | exact (AH.blk_put_ne _ _ (by assumption)).trans (by assumption) | exact AH.none_put (by assumption) | exact AH.none_put (AH.none_put (by assumption)) | (simp only [AH.blk_setTok, AH.tok_put] at *; first | assumption | exact AH.none_put (by assumption)))) | (refine AH.le_putM ?_ (by first | assumption | exact (AH.mp_putM_ne _ _ (by assumption)).trans (by assumption) | (simp only [AH.mp_put, AH.mp_setTok] at *; assumption))))) fun i hi => .of_vg hm ?_
    by_cases h3 : i < O.length
    · have hc : (i : Int) < (O.length : Int) := by omega
      obtain ⟨T, hT⟩ : ∃ T, T = O.getD i [] := ⟨_, rfl⟩
      have hTm : T ∈ O := by rw [hT]; exact mem_getD h3
      obtain ⟨g1, g2, g3⟩ := q1 T hTm
      have hTl := ix_len g1.1
      have hd := lls_drop h3
      rw [← hT] at hd
      simp only [hc, Nat.mul_one, hd, F_law_AttributionBounds, g_law_AttributionBounds, go_sem, reduceIte, Nat.reduceEqDiff, Nat.reduceAdd, Nat.reduceMul, Nat.reduceSub, reduceCtorEq, Nat.reduceLeDiff, Nat.reduceLT, Int.reduceLT, Int.reduceLE, Int.reduceToNat, Int.reduceAdd, Int.reduceSub, Int.reduceNeg, Int.reduceMul, Int.reduceEq, ← Bool.decide_and, ← Bool.decide_or, ↓tq_n, ↓tq_e, ↓tq_r, ↓bq_n, ↓bq_e, ↓bq_r, ↓rq_n, ↓rq_r, ↓rq_e]
      refine CallG.mk (r_contradiction_Minimal m n1 a u1 false T .unk _) ?_
      rw [g2]
      have hfs := flat_succ h3
      rw [← hT] at hfs
      have hnd : ((O.take i).flatten ++ T).Nodup := by
        rw [← hfs]
        have e : O.flatten = (O.take (i + 1)).flatten ++ (O.drop (i + 1)).flatten := by rw [← List.flatten_append, List.take_append_drop]
        rw [e] at q2
        exact (List.nodup_append.1 q2).1
      simp only [F_law_AttributionBounds, g_law_AttributionBounds, go_sem, reduceIte, Nat.reduceEqDiff, Nat.reduceAdd, Nat.reduceMul, Nat.reduceSub, reduceCtorEq, Nat.reduceLeDiff, Nat.reduceLT, Int.reduceLT, Int.reduceLE, Int.reduceToNat, Int.reduceAdd, Int.reduceSub, Int.reduceNeg, Int.reduceMul, Int.reduceEq, ← Bool.decide_and, ← Bool.decide_or, ↓tq_n, ↓tq_e, ↓tq_r, ↓bq_n, ↓bq_e, ↓bq_r, ↓rq_n, ↓rq_r, ↓rq_e]
      refine awp_loop (fun j : Nat => [(1, .sl n3 r.length (i64s r) u3), (2, .sptr [I m, .sl n1 a.length (prs a) u1, .sl n2 w.length (i64s w) u2]), (5, gl (lls O) O.length .unk), (6, I b), (8, gl (i64s ((O.take i).flatten ++ T.take j)) ((O.take i).flatten ++ T.take j).length (.tok t)), (9, I i), (10, I j)]) (fun j => h'.setTok t ((O.take i).flatten ++ T.take j).length 1) (fun j => j ≤ T.length) (fun j => T.length - j) 0 (Nat.zero_le _) (by simp only [List.take_zero, List.append_nil]; exact (GStep.forget (by repeat' first | exact EnvLe.nil _ | refine EnvLe.cons (AV.le.of_eq rfl) ?_ | refine EnvLe.cons (AV.le.undef _) ?_ | refine EnvLe.cons AV.le.unk ?_) (by repeat' first | exact AH.le.refl _ | assumption | (refine AH.le_put ?_ (by first | assumption | exact (AH.blk_put_ne _ _ (by assumption)).trans (by assumption) | exact AH.none_put (by assumption) | exact AH.none_put (AH.none_put (by assumption)) | (simp only [AH.blk_setTok, AH.tok_put] at *; first | assumption | exact AH.none_put (by assumption)))) | (refine AH.le_setTok ?_ (by first | assumption | exact (AH.blk_put_ne _ _ (by assumption)).trans (by assumption) | exact AH.none_put (by assumption) | exact AH.none_put (AH.none_put (by assumption)) | (simp only [AH.blk_setTok, AH.tok_put] at *; first | assumption | exact AH.none_put (by assumption)))) | (refine AH.le_putM ?_ (by first | assumption | exact (AH.mp_putM_ne _ _ (by assumption)).trans (by assumption) | (simp only [AH.mp_put, AH.mp_setTok] at *; assumption)))))) fun j hj => .of_vg hm ?_
      by_cases h4 : j < T.length
      · have hc4 : (j : Int) < (T.length : Int) := by omega
        obtain ⟨U, hU⟩ : ∃ U, U = (O.take i).flatten ++ T.take j := ⟨_, rfl⟩
        have hU1 : (O.take i).flatten ++ T.take (j + 1) = U ++ [T.getD j 0] := by rw [hU, take_getD 0 h4, List.append_assoc]
        have hn1 : (U ++ [T.getD j 0]).Nodup := by
          rw [← hU1]
          exact hnd.sublist ((List.Sublist.refl _).append (List.take_sublist _ _))
        have hnot : ¬ (T.getD j 0 ∈ U) := fun hm2 => (List.nodup_append.1 hn1).2.2 _ hm2 _ (List.mem_singleton.2 rfl) rfl
        have hlen : U.length ≤ 24 := by
          have h1 := nd_len (A := U) (B := nats (List.range a.length)) (List.nodup_append.1 hn1).1 (fun x hx => by
            have hx2 : x ∈ O.flatten := by
              rw [hU] at hx
              rcases List.mem_append.1 hx with hx | hx
              · obtain ⟨V, hV, hxV⟩ := List.mem_flatten.1 hx
                exact List.mem_flatten.2 ⟨V, List.mem_of_mem_take hV, hxV⟩
              · exact List.mem_flatten.2 ⟨T, hTm, List.mem_of_mem_take hx⟩
            obtain ⟨V, hV, hxV⟩ := List.mem_flatten.1 hx2
            have h2 := (q1 V hV).2.2 x hxV
            rw [hall] at h2
            exact h2)
          rw [allI_len] at h1
          have := hok.2.1
          omega
        rw [← hU]
        simp only [hc, hc4, Nat.mul_one, hd, i64s_drop h4, F_law_AttributionBounds, g_law_AttributionBounds, go_sem, reduceIte, Nat.reduceEqDiff, Nat.reduceAdd, Nat.reduceMul, Nat.reduceSub, reduceCtorEq, Nat.reduceLeDiff, Nat.reduceLT, Int.reduceLT, Int.reduceLE, Int.reduceToNat, Int.reduceAdd, Int.reduceSub, Int.reduceNeg, Int.reduceMul, Int.reduceEq, ← Bool.decide_and, ← Bool.decide_or, ↓tq_n, ↓tq_e, ↓tq_r, ↓bq_n, ↓bq_e, ↓bq_r, ↓rq_n, ↓rq_r, ↓rq_e]
        refine CallG.mk (r_base_Has _ U (.tok t) _ _) ?_
        rw [decide_eq_false hnot]
        simp only [hc, hc4, Nat.mul_one, hd, i64s_drop h4, F_law_AttributionBounds, g_law_AttributionBounds, go_sem, reduceIte, Nat.reduceEqDiff, Nat.reduceAdd, Nat.reduceMul, Nat.reduceSub, reduceCtorEq, Nat.reduceLeDiff, Nat.reduceLT, Int.reduceLT, Int.reduceLE, Int.reduceToNat, Int.reduceAdd, Int.reduceSub, Int.reduceNeg, Int.reduceMul, Int.reduceEq, ← Bool.decide_and, ← Bool.decide_or, ↓tq_n, ↓tq_e, ↓tq_r, ↓bq_n, ↓bq_e, ↓bq_r, ↓rq_n, ↓rq_r, ↓rq_e]
        refine ⟨by rw [i64s_len], by omega, by omega, by rw [inR64]; omega, j + 1, by omega, by omega, ?_⟩
        rw [hU1, i64s_append, List.length_append]
        exact (GStep.forget (by repeat' first | exact EnvLe.nil _ | refine EnvLe.cons (AV.le.of_eq rfl) ?_ | refine EnvLe.cons (AV.le.undef _) ?_ | refine EnvLe.cons AV.le.unk ?_) (by repeat' first | exact AH.le.refl _ | assumption | (refine AH.le_put ?_ (by first | assumption | exact (AH.blk_put_ne _ _ (by assumption)).trans (by assumption) | exact AH.none_put (by assumption) | exact AH.none_put (AH.none_put (by assumption)) | (simp only [AH.blk_setTok, AH.tok_put] at *; first | assumption | exact AH.none_put (by assumption)))) | (refine AH.le_setTok ?_ (by first | assumption | exact (AH.blk_put_ne _ _ (by assumption)).trans (by assumption) | exact AH.none_put (by assumption) | exact AH.none_put (AH.none_put (by assumption)) | (simp only [AH.blk_setTok, AH.tok_put] at *; first | assumption | exact AH.none_put (by assumption)))) | (refine AH.le_putM ?_ (by first | assumption | exact (AH.mp_putM_ne _ _ (by assumption)).trans (by assumption) | (simp only [AH.mp_put, AH.mp_setTok] at *; assumption)))))
      have h4 : j = T.length := by omega
      subst h4
      have hle := pk_len (n := m) (a := a) (w := w) a.length all
      rw [← hO] at hle
      have ha24 := hok.2.1
      rw [List.take_length, ← hfs]
      simp only [hc, Nat.mul_one, hd, F_law_AttributionBounds, g_law_AttributionBounds, go_sem, reduceIte, Nat.reduceEqDiff, Nat.reduceAdd, Nat.reduceMul, Nat.reduceSub, reduceCtorEq, Nat.reduceLeDiff, Nat.reduceLT, Int.reduceLT, Int.reduceLE, Int.reduceToNat, Int.reduceAdd, Int.reduceSub, Int.reduceNeg, Int.reduceMul, Int.reduceEq, ← Bool.decide_and, ← Bool.decide_or, ↓tq_n, ↓tq_e, ↓tq_r, ↓bq_n, ↓bq_e, ↓bq_r, ↓rq_n, ↓rq_r, ↓rq_e]
      refine ⟨by rw [inR64]; omega, i + 1, by omega, by omega, ?_⟩
      exact (GStep.forget (by repeat' first | exact EnvLe.nil _ | refine EnvLe.cons (AV.le.of_eq rfl) ?_ | refine EnvLe.cons (AV.le.undef _) ?_ | refine EnvLe.cons AV.le.unk ?_) (by repeat' first | exact AH.le.refl _ | assumption | (refine AH.le_put ?_ (by first | assumption | exact (AH.blk_put_ne _ _ (by assumption)).trans (by assumption) | exact AH.none_put (by assumption) | exact AH.none_put (AH.none_put (by assumption)) | (simp only [AH.blk_setTok, AH.tok_put] at *; first | assumption | exact AH.none_put (by assumption)))) | (refine AH.le_setTok ?_ (by first | assumption | exact (AH.blk_put_ne _ _ (by assumption)).trans (by assumption) | exact AH.none_put (by assumption) | exact AH.none_put (AH.none_put (by assumption)) | (simp only [AH.blk_setTok, AH.tok_put] at *; first | assumption | exact AH.none_put (by assumption)))) | (refine AH.le_putM ?_ (by first | assumption | exact (AH.mp_putM_ne _ _ (by assumption)).trans (by assumption) | (simp only [AH.mp_put, AH.mp_setTok] at *; assumption)))))
    have h3 : i = O.length := by omega
    subst h3
    have hco : ∃ x y, coV (m : Int) a w r = .tup [I x, I y] ∧ (rpB (m : Int) a w r = true → y = 0 ∧ b ≤ x) := by
      unfold coV
      rw [if_pos c1]
      by_cases hix : Ix a.length r
      · rw [if_pos hix]
        refine ⟨_, _, rfl, fun hr => ⟨rfl, ?_⟩⟩
        rw [hb]
        exact pk_cost_set he hw0 hix (rpB_iff.1 hr).2 a.length (by rw [hall]; exact all_ix _)
      · rw [if_neg hix]
        exact ⟨_, _, rfl, fun hr => absurd (rpB_iff.1 hr).1.2 hix⟩
    obtain ⟨x, y, co1, co2⟩ := hco
    obtain ⟨nl, q, le1, le2⟩ := leV_yes c1
    have hbt : b ≤ tot m a w := by
      have h1 := bl_rp hok le2.1 le2.2.1
      have h2 := pk_cost_set he hw0 (Bl_ix a q) (rpB_iff.1 h1).2 a.length (left := all) (by rw [hall]; exact all_ix _)
      rw [← hb, cs_Bl] at h2
      have h3 : bc a w q = tot m a w := le2.2.2
      omega
    have z1 : b = 0 ↔ cyB m a = false := by rw [hb, hall]; exact pk_zero he hok.2.2.2.2 hok.2.2.2.1
    have z2 := tot_zero (n := m) c1
    have z3 : rpB (m : Int) a w [] = !cyB m a := by
      unfold rpB
      rw [rsK_nil, sub_all, decide_eq_true ⟨hok, fun i hi => absurd hi (Nat.not_lt_zero _)⟩, Int.toNat_natCast]; rfl
    simp only [F_law_AttributionBounds, g_law_AttributionBounds, go_sem, reduceIte, Nat.reduceEqDiff, Nat.reduceAdd, Nat.reduceMul, Nat.reduceSub, reduceCtorEq, Nat.reduceLeDiff, Nat.reduceLT, Int.reduceLT, Int.reduceLE, Int.reduceToNat, Int.reduceAdd, Int.reduceSub, Int.reduceNeg, Int.reduceMul, Int.reduceEq, ← Bool.decide_and, ← Bool.decide_or, ↓tq_n, ↓tq_e, ↓tq_r, ↓bq_n, ↓bq_e, ↓bq_r, ↓rq_n, ↓rq_r, ↓rq_e]
    refine CallG.mk (r_attribution_Cost m n1 a u1 n2 w u2 n3 r u3 _) ?_
    rw [co1]
    simp only [F_law_AttributionBounds, g_law_AttributionBounds, go_sem, reduceIte, Nat.reduceEqDiff, Nat.reduceAdd, Nat.reduceMul, Nat.reduceSub, reduceCtorEq, Nat.reduceLeDiff, Nat.reduceLT, Int.reduceLT, Int.reduceLE, Int.reduceToNat, Int.reduceAdd, Int.reduceSub, Int.reduceNeg, Int.reduceMul, Int.reduceEq, ← Bool.decide_and, ← Bool.decide_or, ↓tq_n, ↓tq_e, ↓tq_r, ↓bq_n, ↓bq_e, ↓bq_r, ↓rq_n, ↓rq_r, ↓rq_e]
    refine CallG.mk (r_attribution_Repairs m n1 a u1 n2 w u2 n3 r u3 _) ?_
    have hfin : ∀ bb : Bool, bb = true → (AV.bool bb) = .bool true := fun bb h => by rw [h]
    cases hr : rpB (m : Int) a w r with
    | false =>
      simp only [F_law_AttributionBounds, g_law_AttributionBounds, go_sem, reduceIte, Nat.reduceEqDiff, Nat.reduceAdd, Nat.reduceMul, Nat.reduceSub, reduceCtorEq, Nat.reduceLeDiff, Nat.reduceLT, Int.reduceLT, Int.reduceLE, Int.reduceToNat, Int.reduceAdd, Int.reduceSub, Int.reduceNeg, Int.reduceMul, Int.reduceEq, ← Bool.decide_and, ← Bool.decide_or, ↓tq_n, ↓tq_e, ↓tq_r, ↓bq_n, ↓bq_e, ↓bq_r, ↓rq_n, ↓rq_r, ↓rq_e]
      refine CallG.mk (r_attribution_Least m n1 a u1 n2 w u2 _) ?_
      rw [le1]
      simp only [hbt, F_law_AttributionBounds, g_law_AttributionBounds, go_sem, reduceIte, Nat.reduceEqDiff, Nat.reduceAdd, Nat.reduceMul, Nat.reduceSub, reduceCtorEq, Nat.reduceLeDiff, Nat.reduceLT, Int.reduceLT, Int.reduceLE, Int.reduceToNat, Int.reduceAdd, Int.reduceSub, Int.reduceNeg, Int.reduceMul, Int.reduceEq, ← Bool.decide_and, ← Bool.decide_or, ↓tq_n, ↓tq_e, ↓tq_r, ↓bq_n, ↓bq_e, ↓bq_r, ↓rq_n, ↓rq_r, ↓rq_e]
      refine ⟨fun _ => CallG.mk (r_attribution_Repairs m n1 a u1 n2 w u2 true [] .full _) ?_, fun hne => absurd (decide_eq_decide.2 (z1.trans z2.symm)) hne⟩
      rw [z3]
      simp only [F_law_AttributionBounds, g_law_AttributionBounds, go_sem, reduceIte, Nat.reduceEqDiff, Nat.reduceAdd, Nat.reduceMul, Nat.reduceSub, reduceCtorEq, Nat.reduceLeDiff, Nat.reduceLT, Int.reduceLT, Int.reduceLE, Int.reduceToNat, Int.reduceAdd, Int.reduceSub, Int.reduceNeg, Int.reduceMul, Int.reduceEq, ← Bool.decide_and, ← Bool.decide_or, ↓tq_n, ↓tq_e, ↓tq_r, ↓bq_n, ↓bq_e, ↓bq_r, ↓rq_n, ↓rq_r, ↓rq_e]
      have hlast : (decide (b = 0) == !cyB m a) = true := by
       by_cases hb0 : b = 0
       · rw [decide_eq_true hb0, z1.1 hb0]; rfl
       · have hcy : cyB m a = true := by
           cases hcc : cyB m a with
           | true => rfl
           | false => exact absurd (z1.2 hcc) hb0
         rw [decide_eq_false hb0, hcy]; rfl
      rw [hlast]
      exact ret_le (by repeat' first | exact AH.le.refl _ | assumption | (refine AH.le_put ?_ (by first | assumption | exact (AH.blk_put_ne _ _ (by assumption)).trans (by assumption) | exact AH.none_put (by assumption) | exact AH.none_put (AH.none_put (by assumption)) | (simp only [AH.blk_setTok, AH.tok_put] at *; first | assumption | exact AH.none_put (by assumption)))) | (refine AH.le_setTok ?_ (by first | assumption | exact (AH.blk_put_ne _ _ (by assumption)).trans (by assumption) | exact AH.none_put (by assumption) | exact AH.none_put (AH.none_put (by assumption)) | (simp only [AH.blk_setTok, AH.tok_put] at *; first | assumption | exact AH.none_put (by assumption)))) | (refine AH.le_putM ?_ (by first | assumption | exact (AH.mp_putM_ne _ _ (by assumption)).trans (by assumption) | (simp only [AH.mp_put, AH.mp_setTok] at *; assumption)))) (AV.le.refl _)
    | true =>
      obtain ⟨rfl, hbx⟩ := co2 hr
      have hnx : ¬ x < b := by omega
      simp only [hnx, F_law_AttributionBounds, g_law_AttributionBounds, go_sem, reduceIte, Nat.reduceEqDiff, Nat.reduceAdd, Nat.reduceMul, Nat.reduceSub, reduceCtorEq, Nat.reduceLeDiff, Nat.reduceLT, Int.reduceLT, Int.reduceLE, Int.reduceToNat, Int.reduceAdd, Int.reduceSub, Int.reduceNeg, Int.reduceMul, Int.reduceEq, ← Bool.decide_and, ← Bool.decide_or, ↓tq_n, ↓tq_e, ↓tq_r, ↓bq_n, ↓bq_e, ↓bq_r, ↓rq_n, ↓rq_r, ↓rq_e]
      refine CallG.mk (r_attribution_Least m n1 a u1 n2 w u2 _) ?_
      rw [le1]
      simp only [hbt, F_law_AttributionBounds, g_law_AttributionBounds, go_sem, reduceIte, Nat.reduceEqDiff, Nat.reduceAdd, Nat.reduceMul, Nat.reduceSub, reduceCtorEq, Nat.reduceLeDiff, Nat.reduceLT, Int.reduceLT, Int.reduceLE, Int.reduceToNat, Int.reduceAdd, Int.reduceSub, Int.reduceNeg, Int.reduceMul, Int.reduceEq, ← Bool.decide_and, ← Bool.decide_or, ↓tq_n, ↓tq_e, ↓tq_r, ↓bq_n, ↓bq_e, ↓bq_r, ↓rq_n, ↓rq_r, ↓rq_e]
      refine ⟨fun _ => CallG.mk (r_attribution_Repairs m n1 a u1 n2 w u2 true [] .full _) ?_, fun hne => absurd (decide_eq_decide.2 (z1.trans z2.symm)) hne⟩
      rw [z3]
      simp only [F_law_AttributionBounds, g_law_AttributionBounds, go_sem, reduceIte, Nat.reduceEqDiff, Nat.reduceAdd, Nat.reduceMul, Nat.reduceSub, reduceCtorEq, Nat.reduceLeDiff, Nat.reduceLT, Int.reduceLT, Int.reduceLE, Int.reduceToNat, Int.reduceAdd, Int.reduceSub, Int.reduceNeg, Int.reduceMul, Int.reduceEq, ← Bool.decide_and, ← Bool.decide_or, ↓tq_n, ↓tq_e, ↓tq_r, ↓bq_n, ↓bq_e, ↓bq_r, ↓rq_n, ↓rq_r, ↓rq_e]
      have hlast : (decide (b = 0) == !cyB m a) = true := by
       by_cases hb0 : b = 0
       · rw [decide_eq_true hb0, z1.1 hb0]; rfl
       · have hcy : cyB m a = true := by
           cases hcc : cyB m a with
           | true => rfl
           | false => exact absurd (z1.2 hcc) hb0
         rw [decide_eq_false hb0, hcy]; rfl
      rw [hlast]
      exact ret_le (by repeat' first | exact AH.le.refl _ | assumption | (refine AH.le_put ?_ (by first | assumption | exact (AH.blk_put_ne _ _ (by assumption)).trans (by assumption) | exact AH.none_put (by assumption) | exact AH.none_put (AH.none_put (by assumption)) | (simp only [AH.blk_setTok, AH.tok_put] at *; first | assumption | exact AH.none_put (by assumption)))) | (refine AH.le_setTok ?_ (by first | assumption | exact (AH.blk_put_ne _ _ (by assumption)).trans (by assumption) | exact AH.none_put (by assumption) | exact AH.none_put (AH.none_put (by assumption)) | (simp only [AH.blk_setTok, AH.tok_put] at *; first | assumption | exact AH.none_put (by assumption)))) | (refine AH.le_putM ?_ (by first | assumption | exact (AH.mp_putM_ne _ _ (by assumption)).trans (by assumption) | (simp only [AH.mp_put, AH.mp_setTok] at *; assumption)))) (AV.le.refl _)
end Go.Proofs.Ytemfmnjhhdeedaa
