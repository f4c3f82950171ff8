/- Calls of functions of this seat's program: whether a set that is being made has a cycle. No condition. -/
import Derived.Test.YtgfidbejffhalaaD2
namespace Go.Proofs.Ytgfidbejffhalaa
open Go Go.Abs
set_option linter.unusedSimpArgs false
set_option linter.unusedVariables false
set_option maxRecDepth 20000

theorem s_contradiction_reachM (n : Nat) (n1 : Bool) (a : List (Int × Int)) (u1 : Tail) (he : Ev n a) (s : List Int) (bs q : Nat) (more : List AV) (hs : Ix a.length s) (hx : s.length ≤ 1000) (h : AH) (hbs : h.blk bs = some (i64s s ++ more)) :
    ACalls Try.prog n_contradiction_reach [I n, .sl n1 a.length (prs a) u1, .msl bs 0 s.length (some q)] h (fun r h'' => ∃ b, h.blk b = none ∧ r = .msl b 0 n (some n) ∧ h'' = h.put b (u32s (wr n (nxt n (sub a s) s.length) n))) := by
  refine ACalls.of hm cF_contradiction_reach (by simp [g_contradiction_reach]) fun hw => ?_
  have hn : n ≤ 24 := by have := he.2.1; omega
  have hsa := sub_arc he hs
  simp only [F_contradiction_reach, g_contradiction_reach, go_sem, reduceIte, Nat.reduceEqDiff, Nat.reduceAdd, Nat.reduceMul, Nat.reduceSub, reduceCtorEq, Nat.reduceLeDiff, Nat.reduceLT, Int.reduceLT, Int.reduceLE, Int.reduceToNat, Int.reduceAdd, Int.reduceSub, Int.reduceNeg, Int.reduceMul, Int.reduceEq, ← Bool.decide_and, ← Bool.decide_or, ↓tq_n, ↓tq_e, ↓tq_r, ↓bq_n, ↓bq_e, ↓bq_r, ↓rq_n, ↓rq_r, ↓rq_e]
  refine MakeG.mk (by omega) (Int.le_refl _) (by omega) (by omega) fun b hb => ?_
  have hne : bs ≠ b := fun hh => by subst hh; rw [hb] at hbs; cases hbs
  have hrd : ∀ X, (h.put b X).blk bs = some (i64s s ++ more) := fun X => (AH.blk_put_ne _ _ hne).trans hbs
  have hdr : ∀ i, i < s.length → (i64s s ++ more).drop i = I (s.getD i 0) :: ((i64s s).drop (i + 1) ++ more) := fun i hi => by rw [List.drop_append_of_le_length (by rw [i64s_len]; omega), i64s_drop hi]; rfl
  rw [flat_rep]
  simp only [F_contradiction_reach, g_contradiction_reach, go_sem, reduceIte, Nat.reduceEqDiff, Nat.reduceAdd, Nat.reduceMul, Nat.reduceSub, reduceCtorEq, Nat.reduceLeDiff, Nat.reduceLT, Int.reduceLT, Int.reduceLE, Int.reduceToNat, Int.reduceAdd, Int.reduceSub, Int.reduceNeg, Int.reduceMul, Int.reduceEq, ← Bool.decide_and, ← Bool.decide_or, ↓tq_n, ↓tq_e, ↓tq_r, ↓bq_n, ↓bq_e, ↓bq_r, ↓rq_n, ↓rq_r, ↓rq_e]
  refine awp_loop (fun i : Nat => [(0, I n), (1, .sl n1 a.length (prs a) u1), (7, .msl b 0 n (some n)), (14, .msl bs 0 s.length (some q)), (15, I s.length), (16, I i)]) (fun i => h.put b (u32s (nxt n (sub a s) i))) (fun i => i ≤ s.length) (fun i => s.length - i) 0 (Nat.zero_le _) (by simp only [nxt, u32s, List.map_replicate]; exact (GStep.forget (by repeat' first | exact EnvLe.nil _ | refine EnvLe.cons (AV.le.of_eq rfl) ?_ | refine EnvLe.cons (AV.le.undef _) ?_ | refine EnvLe.cons AV.le.unk ?_) (by repeat' first | exact AH.le.refl _ | assumption | (refine AH.le_put ?_ (by first | assumption | exact (AH.blk_put_ne _ _ (by assumption)).trans (by assumption) | exact AH.none_put (by assumption) | exact AH.none_put (AH.none_put (by assumption)) | (simp only [AH.blk_setTok, AH.tok_put] at *; first | assumption | exact AH.none_put (by assumption)))) | (refine AH.le_setTok ?_ (by first | assumption | exact (AH.blk_put_ne _ _ (by assumption)).trans (by assumption) | exact AH.none_put (by assumption) | exact AH.none_put (AH.none_put (by assumption)) | (simp only [AH.blk_setTok, AH.tok_put] at *; first | assumption | exact AH.none_put (by assumption)))) | (refine AH.le_putM ?_ (by first | assumption | exact (AH.mp_putM_ne _ _ (by assumption)).trans (by assumption) | (simp only [AH.mp_put, AH.mp_setTok] at *; assumption)))))) fun i hi => .of_vg hm ?_
  by_cases h5 : i < s.length
  · have hc : (i : Int) < (s.length : Int) := by omega
    obtain ⟨i1, i2, i3⟩ := ix_at hs h5
    have hx := ev_at he i3
    have hg := sub_get (a := a) h5
    have hnx : nxt n (sub a s) (i + 1) = (nxt n (sub a s) i).set (a.getD (s.getD i 0).toNat (0, 0)).1.toNat ((nxt n (sub a s) i).getD (a.getD (s.getD i 0).toNat (0, 0)).1.toNat 0 ||| 2 ^ (a.getD (s.getD i 0).toNat (0, 0)).2.toNat) := by rw [← hg]; rfl
    unfold Arc at hx
    have hp : (a.getD (s.getD i 0).toNat (0, 0)).1.toNat < (nxt n (sub a s) i).length := by rw [nxt_len]; omega
    have e1 := shl32_one (i := (a.getD (s.getD i 0).toNat (0, 0)).2.toNat) (by omega)
    have hsm := nxt_sm hn (a := sub a s) (fun k hk => (hsa k hk).2.2.2) i (by rw [sub_len]; exact hi)
    have hpow : 2 ^ (a.getD (s.getD i 0).toNat (0, 0)).2.toNat < 4294967296 := by
      have : 2 ^ (a.getD (s.getD i 0).toNat (0, 0)).2.toNat ≤ 2 ^ 31 := Nat.pow_le_pow_right (by decide) (by omega)
      omega
    have e2 := bitu32_or (hsm (a.getD (s.getD i 0).toNat (0, 0)).1.toNat) hpow
    simp only [hc, hrd, Nat.zero_add, Nat.mul_one, hdr i h5, i1, i2, prs_drop i3, u32s_drop hp, e1, e2, F_contradiction_reach, g_contradiction_reach, go_sem, reduceIte, Nat.reduceEqDiff, Nat.reduceAdd, Nat.reduceMul, Nat.reduceSub, reduceCtorEq, Nat.reduceLeDiff, Nat.reduceLT, Int.reduceLT, Int.reduceLE, Int.reduceToNat, Int.reduceAdd, Int.reduceSub, Int.reduceNeg, Int.reduceMul, Int.reduceEq, ← Bool.decide_and, ← Bool.decide_or, ↓tq_n, ↓tq_e, ↓tq_r, ↓bq_n, ↓bq_e, ↓bq_r, ↓rq_n, ↓rq_r, ↓rq_e]
    have e3 : u32s (nxt n (sub a s) (i + 1)) = (u32s (nxt n (sub a s) i)).set (a.getD (s.getD i 0).toNat (0, 0)).1.toNat (AV.int IntKind.u32 ((((nxt n (sub a s) i).getD (a.getD (s.getD i 0).toNat (0, 0)).1.toNat 0 ||| 2 ^ (a.getD (s.getD i 0).toNat (0, 0)).2.toNat : Nat)) : Int)) := by
      rw [hnx]
      simp only [u32s, List.map_set]
    refine ⟨hx.1, hx.2.1, hx.2.2.1, hx.1, hx.2.1, by rw [u32s_len]; omega, by rw [inR64]; omega, i + 1, by omega, by omega, ?_⟩
    rw [e3]
    exact (GStep.forget (by repeat' first | exact EnvLe.nil _ | refine EnvLe.cons (AV.le.of_eq rfl) ?_ | refine EnvLe.cons (AV.le.undef _) ?_ | refine EnvLe.cons AV.le.unk ?_) (by repeat' first | exact AH.le.refl _ | assumption | (refine AH.le_put ?_ (by first | assumption | exact (AH.blk_put_ne _ _ (by assumption)).trans (by assumption) | exact AH.none_put (by assumption) | exact AH.none_put (AH.none_put (by assumption)) | (simp only [AH.blk_setTok, AH.tok_put] at *; first | assumption | exact AH.none_put (by assumption)))) | (refine AH.le_setTok ?_ (by first | assumption | exact (AH.blk_put_ne _ _ (by assumption)).trans (by assumption) | exact AH.none_put (by assumption) | exact AH.none_put (AH.none_put (by assumption)) | (simp only [AH.blk_setTok, AH.tok_put] at *; first | assumption | exact AH.none_put (by assumption)))) | (refine AH.le_putM ?_ (by first | assumption | exact (AH.mp_putM_ne _ _ (by assumption)).trans (by assumption) | (simp only [AH.mp_put, AH.mp_setTok] at *; assumption)))))
  have h5 : i = s.length := by omega
  subst h5
  simp only [F_contradiction_reach, g_contradiction_reach, go_sem, reduceIte, Nat.reduceEqDiff, Nat.reduceAdd, Nat.reduceMul, Nat.reduceSub, reduceCtorEq, Nat.reduceLeDiff, Nat.reduceLT, Int.reduceLT, Int.reduceLE, Int.reduceToNat, Int.reduceAdd, Int.reduceSub, Int.reduceNeg, Int.reduceMul, Int.reduceEq, ← Bool.decide_and, ← Bool.decide_or, ↓tq_n, ↓tq_e, ↓tq_r, ↓bq_n, ↓bq_e, ↓bq_r, ↓rq_n, ↓rq_r, ↓rq_e]
  have hsm := nxt_sm hn (a := sub a s) (fun k hk => (hsa k hk).2.2.2) s.length (by rw [sub_len]; exact Nat.le_refl _)
  have hln := nxt_len n (sub a s) s.length
  generalize nxt n (sub a s) s.length = o at hsm hln ⊢
  refine awp_loop (fun m : Nat => [(0, I n), (7, .msl b 0 n (some n)), (37, I n), (38, I m)]) (fun m => h.put b (u32s (wr n o m))) (fun m => m ≤ n) (fun m => n - m) 0 (Nat.zero_le _) (GStep.forget (by repeat' first | exact EnvLe.nil _ | refine EnvLe.cons (AV.le.of_eq rfl) ?_ | refine EnvLe.cons (AV.le.undef _) ?_ | refine EnvLe.cons AV.le.unk ?_) (by repeat' first | exact AH.le.refl _ | assumption | (refine AH.le_put ?_ (by first | assumption | exact (AH.blk_put_ne _ _ (by assumption)).trans (by assumption) | exact AH.none_put (by assumption) | exact AH.none_put (AH.none_put (by assumption)) | (simp only [AH.blk_setTok, AH.tok_put] at *; first | assumption | exact AH.none_put (by assumption)))) | (refine AH.le_setTok ?_ (by first | assumption | exact (AH.blk_put_ne _ _ (by assumption)).trans (by assumption) | exact AH.none_put (by assumption) | exact AH.none_put (AH.none_put (by assumption)) | (simp only [AH.blk_setTok, AH.tok_put] at *; first | assumption | exact AH.none_put (by assumption)))) | (refine AH.le_putM ?_ (by first | assumption | exact (AH.mp_putM_ne _ _ (by assumption)).trans (by assumption) | (simp only [AH.mp_put, AH.mp_setTok] at *; assumption))))) fun m hmn => .of_vg hm ?_
  by_cases h5 : m < n
  · have hc : (m : Int) < (n : Int) := by omega
    simp only [hc, F_contradiction_reach, g_contradiction_reach, go_sem, reduceIte, Nat.reduceEqDiff, Nat.reduceAdd, Nat.reduceMul, Nat.reduceSub, reduceCtorEq, Nat.reduceLeDiff, Nat.reduceLT, Int.reduceLT, Int.reduceLE, Int.reduceToNat, Int.reduceAdd, Int.reduceSub, Int.reduceNeg, Int.reduceMul, Int.reduceEq, ← Bool.decide_and, ← Bool.decide_or, ↓tq_n, ↓tq_e, ↓tq_r, ↓bq_n, ↓bq_e, ↓bq_r, ↓rq_n, ↓rq_r, ↓rq_e]
    have hsm2 := wr_sm (n := n) hsm m
    have hln2 := wr_len n o m
    refine awp_loop (fun i : Nat => [(0, I n), (7, .msl b 0 n (some n)), (10, I m), (37, I n), (38, I m), (41, I n), (42, I i)]) (fun i => h.put b (u32s (wi m (wr n o m) i))) (fun i => i ≤ n) (fun i => n - i) 0 (Nat.zero_le _) (GStep.forget (by repeat' first | exact EnvLe.nil _ | refine EnvLe.cons (AV.le.of_eq rfl) ?_ | refine EnvLe.cons (AV.le.undef _) ?_ | refine EnvLe.cons AV.le.unk ?_) (by repeat' first | exact AH.le.refl _ | assumption | (refine AH.le_put ?_ (by first | assumption | exact (AH.blk_put_ne _ _ (by assumption)).trans (by assumption) | exact AH.none_put (by assumption) | exact AH.none_put (AH.none_put (by assumption)) | (simp only [AH.blk_setTok, AH.tok_put] at *; first | assumption | exact AH.none_put (by assumption)))) | (refine AH.le_setTok ?_ (by first | assumption | exact (AH.blk_put_ne _ _ (by assumption)).trans (by assumption) | exact AH.none_put (by assumption) | exact AH.none_put (AH.none_put (by assumption)) | (simp only [AH.blk_setTok, AH.tok_put] at *; first | assumption | exact AH.none_put (by assumption)))) | (refine AH.le_putM ?_ (by first | assumption | exact (AH.mp_putM_ne _ _ (by assumption)).trans (by assumption) | (simp only [AH.mp_put, AH.mp_setTok] at *; assumption))))) fun i hi => .of_vg hm ?_
    by_cases h6 : i < n
    · have hc2 : (i : Int) < (n : Int) := by omega
      have hsm3 := wi_sm (m := m) hsm2 i
      have hln3 := wi_len m (wr n o m) i
      have hi1 : i < (wi m (wr n o m) i).length := by omega
      have hm1 : m < (wi m (wr n o m) i).length := by omega
      have e0 := bitu32_at (hsm3 i) (show m ≤ 32 by omega)
      have e2 := bitu32_or (hsm3 i) (hsm3 m)
      by_cases h7 : ((wi m (wr n o m) i).getD i 0).testBit m = true
      · have e3 : u32s (wi m (wr n o m) (i + 1)) = (u32s (wi m (wr n o m) i)).set i (AV.int IntKind.u32 (((wi m (wr n o m) i).getD i 0 ||| (wi m (wr n o m) i).getD m 0 : Nat) : Int)) := by
          rw [wi, if_pos (show bt _ i m = true from h7)]
          simp only [u32s, List.map_set]
        simp only [hc2, hc, u32s_drop hi1, u32s_drop hm1, e0, h7, e2, F_contradiction_reach, g_contradiction_reach, go_sem, reduceIte, Nat.reduceEqDiff, Nat.reduceAdd, Nat.reduceMul, Nat.reduceSub, reduceCtorEq, Nat.reduceLeDiff, Nat.reduceLT, Int.reduceLT, Int.reduceLE, Int.reduceToNat, Int.reduceAdd, Int.reduceSub, Int.reduceNeg, Int.reduceMul, Int.reduceEq, ← Bool.decide_and, ← Bool.decide_or, ↓tq_n, ↓tq_e, ↓tq_r, ↓bq_n, ↓bq_e, ↓bq_r, ↓rq_n, ↓rq_r, ↓rq_e]
        refine ⟨by rw [u32s_len]; omega, by rw [inR64]; omega, i + 1, by omega, by omega, ?_⟩
        rw [e3]
        exact (GStep.forget (by repeat' first | exact EnvLe.nil _ | refine EnvLe.cons (AV.le.of_eq rfl) ?_ | refine EnvLe.cons (AV.le.undef _) ?_ | refine EnvLe.cons AV.le.unk ?_) (by repeat' first | exact AH.le.refl _ | assumption | (refine AH.le_put ?_ (by first | assumption | exact (AH.blk_put_ne _ _ (by assumption)).trans (by assumption) | exact AH.none_put (by assumption) | exact AH.none_put (AH.none_put (by assumption)) | (simp only [AH.blk_setTok, AH.tok_put] at *; first | assumption | exact AH.none_put (by assumption)))) | (refine AH.le_setTok ?_ (by first | assumption | exact (AH.blk_put_ne _ _ (by assumption)).trans (by assumption) | exact AH.none_put (by assumption) | exact AH.none_put (AH.none_put (by assumption)) | (simp only [AH.blk_setTok, AH.tok_put] at *; first | assumption | exact AH.none_put (by assumption)))) | (refine AH.le_putM ?_ (by first | assumption | exact (AH.mp_putM_ne _ _ (by assumption)).trans (by assumption) | (simp only [AH.mp_put, AH.mp_setTok] at *; assumption)))))
      · have e3 : wi m (wr n o m) (i + 1) = wi m (wr n o m) i := by
          rw [wi, if_neg (show ¬ bt _ i m = true from h7)]
        simp only [hc2, hc, u32s_drop hi1, e0, h7, F_contradiction_reach, g_contradiction_reach, go_sem, reduceIte, Nat.reduceEqDiff, Nat.reduceAdd, Nat.reduceMul, Nat.reduceSub, reduceCtorEq, Nat.reduceLeDiff, Nat.reduceLT, Int.reduceLT, Int.reduceLE, Int.reduceToNat, Int.reduceAdd, Int.reduceSub, Int.reduceNeg, Int.reduceMul, Int.reduceEq, ← Bool.decide_and, ← Bool.decide_or, ↓tq_n, ↓tq_e, ↓tq_r, ↓bq_n, ↓bq_e, ↓bq_r, ↓rq_n, ↓rq_r, ↓rq_e]
        refine ⟨by rw [inR64]; omega, i + 1, by omega, by omega, ?_⟩
        rw [e3]
        exact (GStep.forget (by repeat' first | exact EnvLe.nil _ | refine EnvLe.cons (AV.le.of_eq rfl) ?_ | refine EnvLe.cons (AV.le.undef _) ?_ | refine EnvLe.cons AV.le.unk ?_) (by repeat' first | exact AH.le.refl _ | assumption | (refine AH.le_put ?_ (by first | assumption | exact (AH.blk_put_ne _ _ (by assumption)).trans (by assumption) | exact AH.none_put (by assumption) | exact AH.none_put (AH.none_put (by assumption)) | (simp only [AH.blk_setTok, AH.tok_put] at *; first | assumption | exact AH.none_put (by assumption)))) | (refine AH.le_setTok ?_ (by first | assumption | exact (AH.blk_put_ne _ _ (by assumption)).trans (by assumption) | exact AH.none_put (by assumption) | exact AH.none_put (AH.none_put (by assumption)) | (simp only [AH.blk_setTok, AH.tok_put] at *; first | assumption | exact AH.none_put (by assumption)))) | (refine AH.le_putM ?_ (by first | assumption | exact (AH.mp_putM_ne _ _ (by assumption)).trans (by assumption) | (simp only [AH.mp_put, AH.mp_setTok] at *; assumption)))))
    have h6 : i = n := by omega
    subst h6
    simp only [F_contradiction_reach, g_contradiction_reach, go_sem, reduceIte, Nat.reduceEqDiff, Nat.reduceAdd, Nat.reduceMul, Nat.reduceSub, reduceCtorEq, Nat.reduceLeDiff, Nat.reduceLT, Int.reduceLT, Int.reduceLE, Int.reduceToNat, Int.reduceAdd, Int.reduceSub, Int.reduceNeg, Int.reduceMul, Int.reduceEq, ← Bool.decide_and, ← Bool.decide_or, ↓tq_n, ↓tq_e, ↓tq_r, ↓bq_n, ↓bq_e, ↓bq_r, ↓rq_n, ↓rq_r, ↓rq_e]
    exact ⟨by rw [inR64]; omega, m + 1, by omega, by omega, (GStep.forget (by repeat' first | exact EnvLe.nil _ | refine EnvLe.cons (AV.le.of_eq rfl) ?_ | refine EnvLe.cons (AV.le.undef _) ?_ | refine EnvLe.cons AV.le.unk ?_) (by repeat' first | exact AH.le.refl _ | assumption | (refine AH.le_put ?_ (by first | assumption | exact (AH.blk_put_ne _ _ (by assumption)).trans (by assumption) | exact AH.none_put (by assumption) | exact AH.none_put (AH.none_put (by assumption)) | (simp only [AH.blk_setTok, AH.tok_put] at *; first | assumption | exact AH.none_put (by assumption)))) | (refine AH.le_setTok ?_ (by first | assumption | exact (AH.blk_put_ne _ _ (by assumption)).trans (by assumption) | exact AH.none_put (by assumption) | exact AH.none_put (AH.none_put (by assumption)) | (simp only [AH.blk_setTok, AH.tok_put] at *; first | assumption | exact AH.none_put (by assumption)))) | (refine AH.le_putM ?_ (by first | assumption | exact (AH.mp_putM_ne _ _ (by assumption)).trans (by assumption) | (simp only [AH.mp_put, AH.mp_setTok] at *; assumption)))))⟩
  have h5 : m = n := by omega
  subst h5
  simp only [F_contradiction_reach, g_contradiction_reach, go_sem, reduceIte, Nat.reduceEqDiff, Nat.reduceAdd, Nat.reduceMul, Nat.reduceSub, reduceCtorEq, Nat.reduceLeDiff, Nat.reduceLT, Int.reduceLT, Int.reduceLE, Int.reduceToNat, Int.reduceAdd, Int.reduceSub, Int.reduceNeg, Int.reduceMul, Int.reduceEq, ← Bool.decide_and, ← Bool.decide_or, ↓tq_n, ↓tq_e, ↓tq_r, ↓bq_n, ↓bq_e, ↓bq_r, ↓rq_n, ↓rq_r, ↓rq_e]
  exact ⟨_, _, RGh.refl _ _, b, hb, rfl, rfl⟩
theorem r_contradiction_clashesM (n : Nat) (n1 : Bool) (a : List (Int × Int)) (u1 : Tail) (he : Ev n a) (s : List Int) (bs q : Nat) (more : List AV) (hs : Ix a.length s) (hx : s.length ≤ 1000) (h : AH) (hbs : h.blk bs = some (i64s s ++ more)) :
    RCall Try.prog n_contradiction_clashes [I n, .sl n1 a.length (prs a) u1, .msl bs 0 s.length (some q)] h (.bool (cyB n (sub a s))) := by
  refine RCall.of hm cF_contradiction_clashes (by simp [g_contradiction_clashes]) fun hw h' hl => ?_
  have hn : n ≤ 24 := by have := he.2.1; omega
  have hsa := sub_arc he hs
  simp only [F_contradiction_clashes, g_contradiction_clashes, go_sem, reduceIte, Nat.reduceEqDiff, Nat.reduceAdd, Nat.reduceMul, Nat.reduceSub, reduceCtorEq, Nat.reduceLeDiff, Nat.reduceLT, Int.reduceLT, Int.reduceLE, Int.reduceToNat, Int.reduceAdd, Int.reduceSub, Int.reduceNeg, Int.reduceMul, Int.reduceEq, ← Bool.decide_and, ← Bool.decide_or, ↓tq_n, ↓tq_e, ↓tq_r, ↓bq_n, ↓bq_e, ↓bq_r, ↓rq_n, ↓rq_r, ↓rq_e]
  refine CallS.mk (s_contradiction_reachM n n1 a u1 he s bs q more hs hx _ (hl.1 _ _ hbs)) fun r h'' hr => ?_
  obtain ⟨b, hb, rfl, rfl⟩ := hr
  have hsm := wr_sm (n := n) (nxt_sm hn (a := sub a s) (fun k hk => (hsa k hk).2.2.2) s.length (by rw [sub_len]; exact Nat.le_refl _)) n
  have hln : (wr n (nxt n (sub a s) s.length) n).length = n := by rw [wr_len, nxt_len]
  have hcy : cyB n (sub a s) = (List.range n).any fun i => bt (wr n (nxt n (sub a s) s.length) n) i i := by unfold cyB; rw [sub_len]
  rw [hcy]
  generalize wr n (nxt n (sub a s) s.length) n = o at hsm hln ⊢
  simp only [F_contradiction_clashes, g_contradiction_clashes, go_sem, reduceIte, Nat.reduceEqDiff, Nat.reduceAdd, Nat.reduceMul, Nat.reduceSub, reduceCtorEq, Nat.reduceLeDiff, Nat.reduceLT, Int.reduceLT, Int.reduceLE, Int.reduceToNat, Int.reduceAdd, Int.reduceSub, Int.reduceNeg, Int.reduceMul, Int.reduceEq, ← Bool.decide_and, ← Bool.decide_or, ↓tq_n, ↓tq_e, ↓tq_r, ↓bq_n, ↓bq_e, ↓bq_r, ↓rq_n, ↓rq_r, ↓rq_e]
  refine awp_loop (fun i : Nat => [(12, .msl b 0 n (some n)), (13, I n), (14, I i)]) (fun _ => h'.put b (u32s o)) (fun i => i ≤ n ∧ ∀ j, j < i → bt o j j = false) (fun i => n - i) 0 ⟨Nat.zero_le _, fun j hj => absurd hj (Nat.not_lt_zero _)⟩ (GStep.forget (by repeat' first | exact EnvLe.nil _ | refine EnvLe.cons (AV.le.of_eq rfl) ?_ | refine EnvLe.cons (AV.le.undef _) ?_ | refine EnvLe.cons AV.le.unk ?_) (by repeat' first | exact AH.le.refl _ | assumption | (refine AH.le_put ?_ (by first | assumption | exact (AH.blk_put_ne _ _ (by assumption)).trans (by assumption) | exact AH.none_put (by assumption) | exact AH.none_put (AH.none_put (by assumption)) | (simp only [AH.blk_setTok, AH.tok_put] at *; first | assumption | exact AH.none_put (by assumption)))) | (refine AH.le_setTok ?_ (by first | assumption | exact (AH.blk_put_ne _ _ (by assumption)).trans (by assumption) | exact AH.none_put (by assumption) | exact AH.none_put (AH.none_put (by assumption)) | (simp only [AH.blk_setTok, AH.tok_put] at *; first | assumption | exact AH.none_put (by assumption)))) | (refine AH.le_putM ?_ (by first | assumption | exact (AH.mp_putM_ne _ _ (by assumption)).trans (by assumption) | (simp only [AH.mp_put, AH.mp_setTok] at *; assumption))))) fun i hi => .of_vg hm ?_
  obtain ⟨h1, h2⟩ := hi
  by_cases h6 : i < n
  · have hc2 : (i : Int) < (n : Int) := by omega
    have e0 := bitu32_at (hsm i) (show i ≤ 32 by omega)
    by_cases h7 : (o.getD i 0).testBit i = true
    · simp only [hc2, u32s_drop (show i < o.length by omega), e0, h7, F_contradiction_clashes, g_contradiction_clashes, go_sem, reduceIte, Nat.reduceEqDiff, Nat.reduceAdd, Nat.reduceMul, Nat.reduceSub, reduceCtorEq, Nat.reduceLeDiff, Nat.reduceLT, Int.reduceLT, Int.reduceLE, Int.reduceToNat, Int.reduceAdd, Int.reduceSub, Int.reduceNeg, Int.reduceMul, Int.reduceEq, ← Bool.decide_and, ← Bool.decide_or, ↓tq_n, ↓tq_e, ↓tq_r, ↓bq_n, ↓bq_e, ↓bq_r, ↓rq_n, ↓rq_r, ↓rq_e]
      refine ret_hb (AH.le_put (.refl _) hb) ?_
      have : ((List.range n).any fun i => bt o i i) = true := List.any_eq_true.2 ⟨i, List.mem_range.2 h6, h7⟩
      rw [this]
    · simp only [hc2, u32s_drop (show i < o.length by omega), e0, h7, F_contradiction_clashes, g_contradiction_clashes, go_sem, reduceIte, Nat.reduceEqDiff, Nat.reduceAdd, Nat.reduceMul, Nat.reduceSub, reduceCtorEq, Nat.reduceLeDiff, Nat.reduceLT, Int.reduceLT, Int.reduceLE, Int.reduceToNat, Int.reduceAdd, Int.reduceSub, Int.reduceNeg, Int.reduceMul, Int.reduceEq, ← Bool.decide_and, ← Bool.decide_or, ↓tq_n, ↓tq_e, ↓tq_r, ↓bq_n, ↓bq_e, ↓bq_r, ↓rq_n, ↓rq_r, ↓rq_e]
      exact ⟨by rw [inR64]; omega, i + 1, ⟨by omega, all_succ h2 (Bool.eq_false_iff.2 h7)⟩, by omega, (GStep.forget (by repeat' first | exact EnvLe.nil _ | refine EnvLe.cons (AV.le.of_eq rfl) ?_ | refine EnvLe.cons (AV.le.undef _) ?_ | refine EnvLe.cons AV.le.unk ?_) (by repeat' first | exact AH.le.refl _ | assumption | (refine AH.le_put ?_ (by first | assumption | exact (AH.blk_put_ne _ _ (by assumption)).trans (by assumption) | exact AH.none_put (by assumption) | exact AH.none_put (AH.none_put (by assumption)) | (simp only [AH.blk_setTok, AH.tok_put] at *; first | assumption | exact AH.none_put (by assumption)))) | (refine AH.le_setTok ?_ (by first | assumption | exact (AH.blk_put_ne _ _ (by assumption)).trans (by assumption) | exact AH.none_put (by assumption) | exact AH.none_put (AH.none_put (by assumption)) | (simp only [AH.blk_setTok, AH.tok_put] at *; first | assumption | exact AH.none_put (by assumption)))) | (refine AH.le_putM ?_ (by first | assumption | exact (AH.mp_putM_ne _ _ (by assumption)).trans (by assumption) | (simp only [AH.mp_put, AH.mp_setTok] at *; assumption)))))⟩
  · have h6 : i = n := by omega
    subst h6
    simp only [F_contradiction_clashes, g_contradiction_clashes, go_sem, reduceIte, Nat.reduceEqDiff, Nat.reduceAdd, Nat.reduceMul, Nat.reduceSub, reduceCtorEq, Nat.reduceLeDiff, Nat.reduceLT, Int.reduceLT, Int.reduceLE, Int.reduceToNat, Int.reduceAdd, Int.reduceSub, Int.reduceNeg, Int.reduceMul, Int.reduceEq, ← Bool.decide_and, ← Bool.decide_or, ↓tq_n, ↓tq_e, ↓tq_r, ↓bq_n, ↓bq_e, ↓bq_r, ↓rq_n, ↓rq_r, ↓rq_e]
    refine ret_hb (AH.le_put (.refl _) hb) ?_
    have : ((List.range i).any fun i => bt o i i) = false := by
      rw [Bool.eq_false_iff]
      intro hh
      obtain ⟨j, h3, h4⟩ := List.any_eq_true.1 hh
      rw [h2 j (List.mem_range.1 h3)] at h4
      cases h4
    rw [this]

end Go.Proofs.Ytgfidbejffhalaa
