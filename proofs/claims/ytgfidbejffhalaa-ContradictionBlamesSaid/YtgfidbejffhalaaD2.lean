/- Calls of functions of this seat's program: whether a set of arcs has a cycle. No condition. -/
import Derived.Test.YtgfidbejffhalaaD1
namespace Go.Proofs.Ytgfidbejffhalaa
open Go Go.Abs
set_option linter.unusedSimpArgs false
set_option linter.unusedVariables false
set_option maxRecDepth 20000

/-- The arcs of a set. -/
def sub (a : List (Int × Int)) (s : List Int) : List (Int × Int) := s.map fun k => a.getD k.toNat (0, 0)
theorem sub_len (a : List (Int × Int)) (s : List Int) : (sub a s).length = s.length := by simp [sub]
theorem sub_get {a : List (Int × Int)} {s : List Int} {i : Nat} (h : i < s.length) : (sub a s).getD i (0, 0) = a.getD (s.getD i 0).toNat (0, 0) := by simp [sub, List.getD, h]
theorem ix_at {a : List (Int × Int)} {s : List Int} (h : Ix a.length s) {i : Nat} (hi : i < s.length) : 0 ≤ s.getD i 0 ∧ s.getD i 0 < a.length ∧ (s.getD i 0).toNat < a.length := by
  have := (h i hi).1
  omega
theorem ev_at {n : Nat} {a : List (Int × Int)} (h : Ev n a) {k : Nat} (hk : k < a.length) : Arc n (a.getD k (0, 0)) := by
  obtain ⟨h1, h2, _⟩ := h.2.2.2 k hk
  exact ⟨h1.1, h1.2, h2.1, h2.2⟩
theorem sub_arc {n : Nat} {a : List (Int × Int)} {s : List Int} (h : Ev n a) (hs : Ix a.length s) : ∀ i, i < (sub a s).length → Arc n ((sub a s).getD i (0, 0)) := fun i hi => by
  rw [sub_len] at hi
  rw [sub_get hi]
  exact ev_at h (ix_at hs hi).2.2
/-- Whether arcs have a cycle. -/
def cyB (n : Nat) (b : List (Int × Int)) : Bool := (List.range n).any fun i => bt (wr n (nxt n b b.length) n) i i
def arcE (n : Nat) (b : List (Int × Int)) : Nat → Nat → Prop := BE (nxt n b b.length)
theorem arcE_iff {n : Nat} {b : List (Int × Int)} (hb : ∀ i, i < b.length → Arc n (b.getD i (0, 0))) {i j : Nat} : arcE n b i j ↔ ∃ q, q < b.length ∧ b.getD q (0, 0) = ((i : Int), (j : Int)) := by
  have := nxt_bt (n := n) (a := b) (fun i hi => hb i hi) b.length (Nat.le_refl _) i j
  exact this
theorem arcE_lt {n : Nat} {b : List (Int × Int)} (hb : ∀ i, i < b.length → Arc n (b.getD i (0, 0))) : ∀ i j, arcE n b i j → i < n ∧ j < n := by
  intro i j h
  obtain ⟨q, hq, e⟩ := (arcE_iff hb).1 h
  have := hb q hq
  rw [e] at this
  obtain ⟨h1, h2, h3, h4⟩ := this
  simp only at h1 h2 h3 h4
  omega
theorem cyB_iff {n : Nat} {b : List (Int × Int)} (hb : ∀ i, i < b.length → Arc n (b.getD i (0, 0))) : cyB n b = true ↔ ∃ v, v < n ∧ Way (arcE n b) v v := by
  unfold cyB
  rw [List.any_eq_true]
  constructor
  · rintro ⟨v, h1, h2⟩
    rw [List.mem_range] at h1
    exact ⟨v, h1, (wr_way (nxt_len _ _ _) (arcE_lt hb) h1).1 h2⟩
  · rintro ⟨v, h1, h2⟩
    exact ⟨v, List.mem_range.2 h1, (wr_way (nxt_len _ _ _) (arcE_lt hb) h1).2 h2⟩

theorem s_contradiction_reach (n : Nat) (n1 : Bool) (a : List (Int × Int)) (u1 : Tail) (he : Ev n a) (n2 : Bool) (s : List Int) (u2 : Tail) (hs : Ix a.length s) (h : AH) :
    ACalls Try.prog n_contradiction_reach [I n, .sl n1 a.length (prs a) u1, .sl n2 s.length (i64s s) u2] h (fun r h'' => ∃ b, h.blk b = none ∧ r = .msl b 0 n (some n) ∧ h'' = h.put b (u32s (wr n (nxt n (sub a s) s.length) n))) := by
  refine ACalls.of hm cF_contradiction_reach (by simp [g_contradiction_reach]) fun hw => ?_
  have hx := wf_len (hw _ (.tail _ (.tail _ (.head _))))
  have hn : n ≤ 24 := by have := he.2.1; omega
  have hsa := sub_arc he hs
  simp only [F_contradiction_reach, g_contradiction_reach, go_sem, reduceIte, Nat.reduceEqDiff, Nat.reduceAdd, Nat.reduceMul, Nat.reduceSub, reduceCtorEq, Nat.reduceLeDiff, Nat.reduceLT, Int.reduceLT, Int.reduceLE, Int.reduceToNat, Int.reduceAdd, Int.reduceSub, Int.reduceNeg, Int.reduceMul, Int.reduceEq, ← Bool.decide_and, ← Bool.decide_or, ↓tq_n, ↓tq_e, ↓tq_r, ↓bq_n, ↓bq_e, ↓bq_r, ↓rq_n, ↓rq_r, ↓rq_e]
  refine MakeG.mk (by omega) (Int.le_refl _) (by omega) (by omega) fun b hb => ?_
  rw [flat_rep]
  simp only [F_contradiction_reach, g_contradiction_reach, go_sem, reduceIte, Nat.reduceEqDiff, Nat.reduceAdd, Nat.reduceMul, Nat.reduceSub, reduceCtorEq, Nat.reduceLeDiff, Nat.reduceLT, Int.reduceLT, Int.reduceLE, Int.reduceToNat, Int.reduceAdd, Int.reduceSub, Int.reduceNeg, Int.reduceMul, Int.reduceEq, ← Bool.decide_and, ← Bool.decide_or, ↓tq_n, ↓tq_e, ↓tq_r, ↓bq_n, ↓bq_e, ↓bq_r, ↓rq_n, ↓rq_r, ↓rq_e]
  refine awp_loop (fun i : Nat => [(0, I n), (1, .sl n1 a.length (prs a) u1), (7, .msl b 0 n (some n)), (14, .sl n2 s.length (i64s s) u2), (15, I s.length), (16, I i)]) (fun i => h.put b (u32s (nxt n (sub a s) i))) (fun i => i ≤ s.length) (fun i => s.length - i) 0 (Nat.zero_le _) (by simp only [nxt, u32s, List.map_replicate]; exact (GStep.forget (by repeat' first | exact EnvLe.nil _ | refine EnvLe.cons (AV.le.of_eq rfl) ?_ | refine EnvLe.cons (AV.le.undef _) ?_ | refine EnvLe.cons AV.le.unk ?_) (by repeat' first | exact AH.le.refl _ | assumption | (refine AH.le_put ?_ (by first | assumption | exact (AH.blk_put_ne _ _ (by assumption)).trans (by assumption) | exact AH.none_put (by assumption) | exact AH.none_put (AH.none_put (by assumption)) | (simp only [AH.blk_setTok, AH.tok_put] at *; first | assumption | exact AH.none_put (by assumption)))) | (refine AH.le_setTok ?_ (by first | assumption | exact (AH.blk_put_ne _ _ (by assumption)).trans (by assumption) | exact AH.none_put (by assumption) | exact AH.none_put (AH.none_put (by assumption)) | (simp only [AH.blk_setTok, AH.tok_put] at *; first | assumption | exact AH.none_put (by assumption)))) | (refine AH.le_putM ?_ (by first | assumption | exact (AH.mp_putM_ne _ _ (by assumption)).trans (by assumption) | (simp only [AH.mp_put, AH.mp_setTok] at *; assumption)))))) fun i hi => .of_vg hm ?_
  by_cases h5 : i < s.length
  · have hc : (i : Int) < (s.length : Int) := by omega
    obtain ⟨i1, i2, i3⟩ := ix_at hs h5
    have hx := ev_at he i3
    have hg := sub_get (a := a) h5
    have hnx : nxt n (sub a s) (i + 1) = (nxt n (sub a s) i).set (a.getD (s.getD i 0).toNat (0, 0)).1.toNat ((nxt n (sub a s) i).getD (a.getD (s.getD i 0).toNat (0, 0)).1.toNat 0 ||| 2 ^ (a.getD (s.getD i 0).toNat (0, 0)).2.toNat) := by rw [← hg]; rfl
    unfold Arc at hx
    have hp : (a.getD (s.getD i 0).toNat (0, 0)).1.toNat < (nxt n (sub a s) i).length := by rw [nxt_len]; omega
    have e1 := shl32_one (i := (a.getD (s.getD i 0).toNat (0, 0)).2.toNat) (by omega)
    have hsm := nxt_sm hn (a := sub a s) (fun k hk => (hsa k hk).2.2.2) i (by rw [sub_len]; exact hi)
    have hpow : 2 ^ (a.getD (s.getD i 0).toNat (0, 0)).2.toNat < 4294967296 := by
      have : 2 ^ (a.getD (s.getD i 0).toNat (0, 0)).2.toNat ≤ 2 ^ 31 := Nat.pow_le_pow_right (by decide) (by omega)
      omega
    have e2 := bitu32_or (hsm (a.getD (s.getD i 0).toNat (0, 0)).1.toNat) hpow
    simp only [hc, i64s_drop h5, i1, i2, prs_drop i3, u32s_drop hp, e1, e2, F_contradiction_reach, g_contradiction_reach, go_sem, reduceIte, Nat.reduceEqDiff, Nat.reduceAdd, Nat.reduceMul, Nat.reduceSub, reduceCtorEq, Nat.reduceLeDiff, Nat.reduceLT, Int.reduceLT, Int.reduceLE, Int.reduceToNat, Int.reduceAdd, Int.reduceSub, Int.reduceNeg, Int.reduceMul, Int.reduceEq, ← Bool.decide_and, ← Bool.decide_or, ↓tq_n, ↓tq_e, ↓tq_r, ↓bq_n, ↓bq_e, ↓bq_r, ↓rq_n, ↓rq_r, ↓rq_e]
    have e3 : u32s (nxt n (sub a s) (i + 1)) = (u32s (nxt n (sub a s) i)).set (a.getD (s.getD i 0).toNat (0, 0)).1.toNat (AV.int IntKind.u32 ((((nxt n (sub a s) i).getD (a.getD (s.getD i 0).toNat (0, 0)).1.toNat 0 ||| 2 ^ (a.getD (s.getD i 0).toNat (0, 0)).2.toNat : Nat)) : Int)) := by
      rw [hnx]
      simp only [u32s, List.map_set]
    refine ⟨hx.1, hx.2.1, hx.2.2.1, hx.1, hx.2.1, by rw [u32s_len]; omega, by rw [inR64]; omega, i + 1, by omega, by omega, ?_⟩
    rw [e3]
    exact (GStep.forget (by repeat' first | exact EnvLe.nil _ | refine EnvLe.cons (AV.le.of_eq rfl) ?_ | refine EnvLe.cons (AV.le.undef _) ?_ | refine EnvLe.cons AV.le.unk ?_) (by repeat' first | exact AH.le.refl _ | assumption | (refine AH.le_put ?_ (by first | assumption | exact (AH.blk_put_ne _ _ (by assumption)).trans (by assumption) | exact AH.none_put (by assumption) | exact AH.none_put (AH.none_put (by assumption)) | (simp only [AH.blk_setTok, AH.tok_put] at *; first | assumption | exact AH.none_put (by assumption)))) | (refine AH.le_setTok ?_ (by first | assumption | exact (AH.blk_put_ne _ _ (by assumption)).trans (by assumption) | exact AH.none_put (by assumption) | exact AH.none_put (AH.none_put (by assumption)) | (simp only [AH.blk_setTok, AH.tok_put] at *; first | assumption | exact AH.none_put (by assumption)))) | (refine AH.le_putM ?_ (by first | assumption | exact (AH.mp_putM_ne _ _ (by assumption)).trans (by assumption) | (simp only [AH.mp_put, AH.mp_setTok] at *; assumption)))))
  have h5 : i = s.length := by omega
  subst h5
  simp only [F_contradiction_reach, g_contradiction_reach, go_sem, reduceIte, Nat.reduceEqDiff, Nat.reduceAdd, Nat.reduceMul, Nat.reduceSub, reduceCtorEq, Nat.reduceLeDiff, Nat.reduceLT, Int.reduceLT, Int.reduceLE, Int.reduceToNat, Int.reduceAdd, Int.reduceSub, Int.reduceNeg, Int.reduceMul, Int.reduceEq, ← Bool.decide_and, ← Bool.decide_or, ↓tq_n, ↓tq_e, ↓tq_r, ↓bq_n, ↓bq_e, ↓bq_r, ↓rq_n, ↓rq_r, ↓rq_e]
  have hsm := nxt_sm hn (a := sub a s) (fun k hk => (hsa k hk).2.2.2) s.length (by rw [sub_len]; exact Nat.le_refl _)
  have hln := nxt_len n (sub a s) s.length
  generalize nxt n (sub a s) s.length = o at hsm hln ⊢
  refine awp_loop (fun m : Nat => [(0, I n), (7, .msl b 0 n (some n)), (37, I n), (38, I m)]) (fun m => h.put b (u32s (wr n o m))) (fun m => m ≤ n) (fun m => n - m) 0 (Nat.zero_le _) (GStep.forget (by repeat' first | exact EnvLe.nil _ | refine EnvLe.cons (AV.le.of_eq rfl) ?_ | refine EnvLe.cons (AV.le.undef _) ?_ | refine EnvLe.cons AV.le.unk ?_) (by repeat' first | exact AH.le.refl _ | assumption | (refine AH.le_put ?_ (by first | assumption | exact (AH.blk_put_ne _ _ (by assumption)).trans (by assumption) | exact AH.none_put (by assumption) | exact AH.none_put (AH.none_put (by assumption)) | (simp only [AH.blk_setTok, AH.tok_put] at *; first | assumption | exact AH.none_put (by assumption)))) | (refine AH.le_setTok ?_ (by first | assumption | exact (AH.blk_put_ne _ _ (by assumption)).trans (by assumption) | exact AH.none_put (by assumption) | exact AH.none_put (AH.none_put (by assumption)) | (simp only [AH.blk_setTok, AH.tok_put] at *; first | assumption | exact AH.none_put (by assumption)))) | (refine AH.le_putM ?_ (by first | assumption | exact (AH.mp_putM_ne _ _ (by assumption)).trans (by assumption) | (simp only [AH.mp_put, AH.mp_setTok] at *; assumption))))) fun m hmn => .of_vg hm ?_
  by_cases h5 : m < n
  · have hc : (m : Int) < (n : Int) := by omega
    simp only [hc, F_contradiction_reach, g_contradiction_reach, go_sem, reduceIte, Nat.reduceEqDiff, Nat.reduceAdd, Nat.reduceMul, Nat.reduceSub, reduceCtorEq, Nat.reduceLeDiff, Nat.reduceLT, Int.reduceLT, Int.reduceLE, Int.reduceToNat, Int.reduceAdd, Int.reduceSub, Int.reduceNeg, Int.reduceMul, Int.reduceEq, ← Bool.decide_and, ← Bool.decide_or, ↓tq_n, ↓tq_e, ↓tq_r, ↓bq_n, ↓bq_e, ↓bq_r, ↓rq_n, ↓rq_r, ↓rq_e]
    have hsm2 := wr_sm (n := n) hsm m
    have hln2 := wr_len n o m
    refine awp_loop (fun i : Nat => [(0, I n), (7, .msl b 0 n (some n)), (10, I m), (37, I n), (38, I m), (41, I n), (42, I i)]) (fun i => h.put b (u32s (wi m (wr n o m) i))) (fun i => i ≤ n) (fun i => n - i) 0 (Nat.zero_le _) (GStep.forget (by repeat' first | exact EnvLe.nil _ | refine EnvLe.cons (AV.le.of_eq rfl) ?_ | refine EnvLe.cons (AV.le.undef _) ?_ | refine EnvLe.cons AV.le.unk ?_) (by repeat' first | exact AH.le.refl _ | assumption | (refine AH.le_put ?_ (by first | assumption | exact (AH.blk_put_ne _ _ (by assumption)).trans (by assumption) | exact AH.none_put (by assumption) | exact AH.none_put (AH.none_put (by assumption)) | (simp only [AH.blk_setTok, AH.tok_put] at *; first | assumption | exact AH.none_put (by assumption)))) | (refine AH.le_setTok ?_ (by first | assumption | exact (AH.blk_put_ne _ _ (by assumption)).trans (by assumption) | exact AH.none_put (by assumption) | exact AH.none_put (AH.none_put (by assumption)) | (simp only [AH.blk_setTok, AH.tok_put] at *; first | assumption | exact AH.none_put (by assumption)))) | (refine AH.le_putM ?_ (by first | assumption | exact (AH.mp_putM_ne _ _ (by assumption)).trans (by assumption) | (simp only [AH.mp_put, AH.mp_setTok] at *; assumption))))) fun i hi => .of_vg hm ?_
    by_cases h6 : i < n
    · have hc2 : (i : Int) < (n : Int) := by omega
      have hsm3 := wi_sm (m := m) hsm2 i
      have hln3 := wi_len m (wr n o m) i
      have hi1 : i < (wi m (wr n o m) i).length := by omega
      have hm1 : m < (wi m (wr n o m) i).length := by omega
      have e0 := bitu32_at (hsm3 i) (show m ≤ 32 by omega)
      have e2 := bitu32_or (hsm3 i) (hsm3 m)
      by_cases h7 : ((wi m (wr n o m) i).getD i 0).testBit m = true
      · have e3 : u32s (wi m (wr n o m) (i + 1)) = (u32s (wi m (wr n o m) i)).set i (AV.int IntKind.u32 (((wi m (wr n o m) i).getD i 0 ||| (wi m (wr n o m) i).getD m 0 : Nat) : Int)) := by
          rw [wi, if_pos (show bt _ i m = true from h7)]
          simp only [u32s, List.map_set]
        simp only [hc2, hc, u32s_drop hi1, u32s_drop hm1, e0, h7, e2, F_contradiction_reach, g_contradiction_reach, go_sem, reduceIte, Nat.reduceEqDiff, Nat.reduceAdd, Nat.reduceMul, Nat.reduceSub, reduceCtorEq, Nat.reduceLeDiff, Nat.reduceLT, Int.reduceLT, Int.reduceLE, Int.reduceToNat, Int.reduceAdd, Int.reduceSub, Int.reduceNeg, Int.reduceMul, Int.reduceEq, ← Bool.decide_and, ← Bool.decide_or, ↓tq_n, ↓tq_e, ↓tq_r, ↓bq_n, ↓bq_e, ↓bq_r, ↓rq_n, ↓rq_r, ↓rq_e]
        refine ⟨by rw [u32s_len]; omega, by rw [inR64]; omega, i + 1, by omega, by omega, ?_⟩
        rw [e3]
        exact (GStep.forget (by repeat' first | exact EnvLe.nil _ | refine EnvLe.cons (AV.le.of_eq rfl) ?_ | refine EnvLe.cons (AV.le.undef _) ?_ | refine EnvLe.cons AV.le.unk ?_) (by repeat' first | exact AH.le.refl _ | assumption | (refine AH.le_put ?_ (by first | assumption | exact (AH.blk_put_ne _ _ (by assumption)).trans (by assumption) | exact AH.none_put (by assumption) | exact AH.none_put (AH.none_put (by assumption)) | (simp only [AH.blk_setTok, AH.tok_put] at *; first | assumption | exact AH.none_put (by assumption)))) | (refine AH.le_setTok ?_ (by first | assumption | exact (AH.blk_put_ne _ _ (by assumption)).trans (by assumption) | exact AH.none_put (by assumption) | exact AH.none_put (AH.none_put (by assumption)) | (simp only [AH.blk_setTok, AH.tok_put] at *; first | assumption | exact AH.none_put (by assumption)))) | (refine AH.le_putM ?_ (by first | assumption | exact (AH.mp_putM_ne _ _ (by assumption)).trans (by assumption) | (simp only [AH.mp_put, AH.mp_setTok] at *; assumption)))))
      · have e3 : wi m (wr n o m) (i + 1) = wi m (wr n o m) i := by
          rw [wi, if_neg (show ¬ bt _ i m = true from h7)]
        simp only [hc2, hc, u32s_drop hi1, e0, h7, F_contradiction_reach, g_contradiction_reach, go_sem, reduceIte, Nat.reduceEqDiff, Nat.reduceAdd, Nat.reduceMul, Nat.reduceSub, reduceCtorEq, Nat.reduceLeDiff, Nat.reduceLT, Int.reduceLT, Int.reduceLE, Int.reduceToNat, Int.reduceAdd, Int.reduceSub, Int.reduceNeg, Int.reduceMul, Int.reduceEq, ← Bool.decide_and, ← Bool.decide_or, ↓tq_n, ↓tq_e, ↓tq_r, ↓bq_n, ↓bq_e, ↓bq_r, ↓rq_n, ↓rq_r, ↓rq_e]
        refine ⟨by rw [inR64]; omega, i + 1, by omega, by omega, ?_⟩
        rw [e3]
        exact (GStep.forget (by repeat' first | exact EnvLe.nil _ | refine EnvLe.cons (AV.le.of_eq rfl) ?_ | refine EnvLe.cons (AV.le.undef _) ?_ | refine EnvLe.cons AV.le.unk ?_) (by repeat' first | exact AH.le.refl _ | assumption | (refine AH.le_put ?_ (by first | assumption | exact (AH.blk_put_ne _ _ (by assumption)).trans (by assumption) | exact AH.none_put (by assumption) | exact AH.none_put (AH.none_put (by assumption)) | (simp only [AH.blk_setTok, AH.tok_put] at *; first | assumption | exact AH.none_put (by assumption)))) | (refine AH.le_setTok ?_ (by first | assumption | exact (AH.blk_put_ne _ _ (by assumption)).trans (by assumption) | exact AH.none_put (by assumption) | exact AH.none_put (AH.none_put (by assumption)) | (simp only [AH.blk_setTok, AH.tok_put] at *; first | assumption | exact AH.none_put (by assumption)))) | (refine AH.le_putM ?_ (by first | assumption | exact (AH.mp_putM_ne _ _ (by assumption)).trans (by assumption) | (simp only [AH.mp_put, AH.mp_setTok] at *; assumption)))))
    have h6 : i = n := by omega
    subst h6
    simp only [F_contradiction_reach, g_contradiction_reach, go_sem, reduceIte, Nat.reduceEqDiff, Nat.reduceAdd, Nat.reduceMul, Nat.reduceSub, reduceCtorEq, Nat.reduceLeDiff, Nat.reduceLT, Int.reduceLT, Int.reduceLE, Int.reduceToNat, Int.reduceAdd, Int.reduceSub, Int.reduceNeg, Int.reduceMul, Int.reduceEq, ← Bool.decide_and, ← Bool.decide_or, ↓tq_n, ↓tq_e, ↓tq_r, ↓bq_n, ↓bq_e, ↓bq_r, ↓rq_n, ↓rq_r, ↓rq_e]
    exact ⟨by rw [inR64]; omega, m + 1, by omega, by omega, (GStep.forget (by repeat' first | exact EnvLe.nil _ | refine EnvLe.cons (AV.le.of_eq rfl) ?_ | refine EnvLe.cons (AV.le.undef _) ?_ | refine EnvLe.cons AV.le.unk ?_) (by repeat' first | exact AH.le.refl _ | assumption | (refine AH.le_put ?_ (by first | assumption | exact (AH.blk_put_ne _ _ (by assumption)).trans (by assumption) | exact AH.none_put (by assumption) | exact AH.none_put (AH.none_put (by assumption)) | (simp only [AH.blk_setTok, AH.tok_put] at *; first | assumption | exact AH.none_put (by assumption)))) | (refine AH.le_setTok ?_ (by first | assumption | exact (AH.blk_put_ne _ _ (by assumption)).trans (by assumption) | exact AH.none_put (by assumption) | exact AH.none_put (AH.none_put (by assumption)) | (simp only [AH.blk_setTok, AH.tok_put] at *; first | assumption | exact AH.none_put (by assumption)))) | (refine AH.le_putM ?_ (by first | assumption | exact (AH.mp_putM_ne _ _ (by assumption)).trans (by assumption) | (simp only [AH.mp_put, AH.mp_setTok] at *; assumption)))))⟩
  have h5 : m = n := by omega
  subst h5
  simp only [F_contradiction_reach, g_contradiction_reach, go_sem, reduceIte, Nat.reduceEqDiff, Nat.reduceAdd, Nat.reduceMul, Nat.reduceSub, reduceCtorEq, Nat.reduceLeDiff, Nat.reduceLT, Int.reduceLT, Int.reduceLE, Int.reduceToNat, Int.reduceAdd, Int.reduceSub, Int.reduceNeg, Int.reduceMul, Int.reduceEq, ← Bool.decide_and, ← Bool.decide_or, ↓tq_n, ↓tq_e, ↓tq_r, ↓bq_n, ↓bq_e, ↓bq_r, ↓rq_n, ↓rq_r, ↓rq_e]
  exact ⟨_, _, RGh.refl _ _, b, hb, rfl, rfl⟩
theorem r_contradiction_clashes (n : Nat) (n1 : Bool) (a : List (Int × Int)) (u1 : Tail) (he : Ev n a) (n2 : Bool) (s : List Int) (u2 : Tail) (hs : Ix a.length s) (h : AH) :
    RCall Try.prog n_contradiction_clashes [I n, .sl n1 a.length (prs a) u1, .sl n2 s.length (i64s s) u2] h (.bool (cyB n (sub a s))) := by
  refine RCall.of hm cF_contradiction_clashes (by simp [g_contradiction_clashes]) fun hw h' hl => ?_
  have hn : n ≤ 24 := by have := he.2.1; omega
  have hsa := sub_arc he hs
  simp only [F_contradiction_clashes, g_contradiction_clashes, go_sem, reduceIte, Nat.reduceEqDiff, Nat.reduceAdd, Nat.reduceMul, Nat.reduceSub, reduceCtorEq, Nat.reduceLeDiff, Nat.reduceLT, Int.reduceLT, Int.reduceLE, Int.reduceToNat, Int.reduceAdd, Int.reduceSub, Int.reduceNeg, Int.reduceMul, Int.reduceEq, ← Bool.decide_and, ← Bool.decide_or, ↓tq_n, ↓tq_e, ↓tq_r, ↓bq_n, ↓bq_e, ↓bq_r, ↓rq_n, ↓rq_r, ↓rq_e]
  refine CallS.mk (s_contradiction_reach n n1 a u1 he n2 s u2 hs _) fun r h'' hr => ?_
  obtain ⟨b, hb, rfl, rfl⟩ := hr
  have hsm := wr_sm (n := n) (nxt_sm hn (a := sub a s) (fun k hk => (hsa k hk).2.2.2) s.length (by rw [sub_len]; exact Nat.le_refl _)) n
  have hln : (wr n (nxt n (sub a s) s.length) n).length = n := by rw [wr_len, nxt_len]
  have hcy : cyB n (sub a s) = (List.range n).any fun i => bt (wr n (nxt n (sub a s) s.length) n) i i := by unfold cyB; rw [sub_len]
  rw [hcy]
  generalize wr n (nxt n (sub a s) s.length) n = o at hsm hln ⊢
  simp only [F_contradiction_clashes, g_contradiction_clashes, go_sem, reduceIte, Nat.reduceEqDiff, Nat.reduceAdd, Nat.reduceMul, Nat.reduceSub, reduceCtorEq, Nat.reduceLeDiff, Nat.reduceLT, Int.reduceLT, Int.reduceLE, Int.reduceToNat, Int.reduceAdd, Int.reduceSub, Int.reduceNeg, Int.reduceMul, Int.reduceEq, ← Bool.decide_and, ← Bool.decide_or, ↓tq_n, ↓tq_e, ↓tq_r, ↓bq_n, ↓bq_e, ↓bq_r, ↓rq_n, ↓rq_r, ↓rq_e]
  refine awp_loop (fun i : Nat => [(12, .msl b 0 n (some n)), (13, I n), (14, I i)]) (fun _ => h'.put b (u32s o)) (fun i => i ≤ n ∧ ∀ j, j < i → bt o j j = false) (fun i => n - i) 0 ⟨Nat.zero_le _, fun j hj => absurd hj (Nat.not_lt_zero _)⟩ (GStep.forget (by repeat' first | exact EnvLe.nil _ | refine EnvLe.cons (AV.le.of_eq rfl) ?_ | refine EnvLe.cons (AV.le.undef _) ?_ | refine EnvLe.cons AV.le.unk ?_) (by repeat' first | exact AH.le.refl _ | assumption | (refine AH.le_put ?_ (by first | assumption | exact (AH.blk_put_ne _ _ (by assumption)).trans (by assumption) | exact AH.none_put (by assumption) | exact AH.none_put (AH.none_put (by assumption)) | (simp only [AH.blk_setTok, AH.tok_put] at *; first | assumption | exact AH.none_put (by assumption)))) | (refine AH.le_setTok ?_ (by first | assumption | exact (AH.blk_put_ne _ _ (by assumption)).trans (by assumption) | exact AH.none_put (by assumption) | exact AH.none_put (AH.none_put (by assumption)) | (simp only [AH.blk_setTok, AH.tok_put] at *; first | assumption | exact AH.none_put (by assumption)))) | (refine AH.le_putM ?_ (by first | assumption | exact (AH.mp_putM_ne _ _ (by assumption)).trans (by assumption) | (simp only [AH.mp_put, AH.mp_setTok] at *; assumption))))) fun i hi => .of_vg hm ?_
  obtain ⟨h1, h2⟩ := hi
  by_cases h6 : i < n
  · have hc2 : (i : Int) < (n : Int) := by omega
    have e0 := bitu32_at (hsm i) (show i ≤ 32 by omega)
    by_cases h7 : (o.getD i 0).testBit i = true
    · simp only [hc2, u32s_drop (show i < o.length by omega), e0, h7, F_contradiction_clashes, g_contradiction_clashes, go_sem, reduceIte, Nat.reduceEqDiff, Nat.reduceAdd, Nat.reduceMul, Nat.reduceSub, reduceCtorEq, Nat.reduceLeDiff, Nat.reduceLT, Int.reduceLT, Int.reduceLE, Int.reduceToNat, Int.reduceAdd, Int.reduceSub, Int.reduceNeg, Int.reduceMul, Int.reduceEq, ← Bool.decide_and, ← Bool.decide_or, ↓tq_n, ↓tq_e, ↓tq_r, ↓bq_n, ↓bq_e, ↓bq_r, ↓rq_n, ↓rq_r, ↓rq_e]
      refine ret_hb (AH.le_put (.refl _) hb) ?_
      have : ((List.range n).any fun i => bt o i i) = true := List.any_eq_true.2 ⟨i, List.mem_range.2 h6, h7⟩
      rw [this]
    · simp only [hc2, u32s_drop (show i < o.length by omega), e0, h7, F_contradiction_clashes, g_contradiction_clashes, go_sem, reduceIte, Nat.reduceEqDiff, Nat.reduceAdd, Nat.reduceMul, Nat.reduceSub, reduceCtorEq, Nat.reduceLeDiff, Nat.reduceLT, Int.reduceLT, Int.reduceLE, Int.reduceToNat, Int.reduceAdd, Int.reduceSub, Int.reduceNeg, Int.reduceMul, Int.reduceEq, ← Bool.decide_and, ← Bool.decide_or, ↓tq_n, ↓tq_e, ↓tq_r, ↓bq_n, ↓bq_e, ↓bq_r, ↓rq_n, ↓rq_r, ↓rq_e]
      exact ⟨by rw [inR64]; omega, i + 1, ⟨by omega, all_succ h2 (Bool.eq_false_iff.2 h7)⟩, by omega, (GStep.forget (by repeat' first | exact EnvLe.nil _ | refine EnvLe.cons (AV.le.of_eq rfl) ?_ | refine EnvLe.cons (AV.le.undef _) ?_ | refine EnvLe.cons AV.le.unk ?_) (by repeat' first | exact AH.le.refl _ | assumption | (refine AH.le_put ?_ (by first | assumption | exact (AH.blk_put_ne _ _ (by assumption)).trans (by assumption) | exact AH.none_put (by assumption) | exact AH.none_put (AH.none_put (by assumption)) | (simp only [AH.blk_setTok, AH.tok_put] at *; first | assumption | exact AH.none_put (by assumption)))) | (refine AH.le_setTok ?_ (by first | assumption | exact (AH.blk_put_ne _ _ (by assumption)).trans (by assumption) | exact AH.none_put (by assumption) | exact AH.none_put (AH.none_put (by assumption)) | (simp only [AH.blk_setTok, AH.tok_put] at *; first | assumption | exact AH.none_put (by assumption)))) | (refine AH.le_putM ?_ (by first | assumption | exact (AH.mp_putM_ne _ _ (by assumption)).trans (by assumption) | (simp only [AH.mp_put, AH.mp_setTok] at *; assumption)))))⟩
  · have h6 : i = n := by omega
    subst h6
    simp only [F_contradiction_clashes, g_contradiction_clashes, go_sem, reduceIte, Nat.reduceEqDiff, Nat.reduceAdd, Nat.reduceMul, Nat.reduceSub, reduceCtorEq, Nat.reduceLeDiff, Nat.reduceLT, Int.reduceLT, Int.reduceLE, Int.reduceToNat, Int.reduceAdd, Int.reduceSub, Int.reduceNeg, Int.reduceMul, Int.reduceEq, ← Bool.decide_and, ← Bool.decide_or, ↓tq_n, ↓tq_e, ↓tq_r, ↓bq_n, ↓bq_e, ↓bq_r, ↓rq_n, ↓rq_r, ↓rq_e]
    refine ret_hb (AH.le_put (.refl _) hb) ?_
    have : ((List.range i).any fun i => bt o i i) = false := by
      rw [Bool.eq_false_iff]
      intro hh
      obtain ⟨j, h3, h4⟩ := List.any_eq_true.1 hh
      rw [h2 j (List.mem_range.1 h3)] at h4
      cases h4
    rw [this]

/-- Whether a vertex is led to, by the first i arcs. -/
def ledK (G : List Bool) (b : List (Int × Int)) (v : Nat) : Nat → Bool
  | 0 => G.getD v false
  | i + 1 => ledK G b v i || (decide ((b.getD i (0, 0)).2 = v) && !(G.getD (b.getD i (0, 0)).1.toNat false))
theorem ledK_iff {G : List Bool} {b : List (Int × Int)} {v : Nat} : ∀ i, ledK G b v i = true ↔ G.getD v false = true ∨ ∃ q, q < i ∧ (b.getD q (0, 0)).2 = v ∧ G.getD (b.getD q (0, 0)).1.toNat false = false := by
  intro i
  induction i with
  | zero => simp [ledK]
  | succ i ih =>
    rw [ledK, Bool.or_eq_true, ih, Bool.and_eq_true, decide_eq_true_eq, Bool.not_eq_true']
    constructor
    · rintro ((h | ⟨q, h1, h2⟩) | ⟨h1, h2⟩)
      · exact .inl h
      · exact .inr ⟨q, by omega, h2⟩
      · exact .inr ⟨i, by omega, h1, h2⟩
    · rintro (h | ⟨q, h1, h2⟩)
      · exact .inl (.inl h)
      · rcases lt_succ_cases h1 with h3 | rfl
        · exact .inl (.inr ⟨q, h3, h2⟩)
        · exact .inr h2
/-- How many vertices are left. -/
def cntF (n : Nat) (G : List Bool) : Nat := ((List.range n).filter fun v => !G.getD v false).length
theorem gset {G : List Bool} {v : Nat} (hv : v < G.length) (x : Nat) : (G.set v true).getD x false = if v = x then true else G.getD x false := by
  simp only [List.getD_eq_getElem?_getD, List.getElem?_set]
  by_cases h : v = x
  · subst h; simp [hv]
  · simp [h]
theorem cntF_lt {n : Nat} {G : List Bool} (hG : G.length = n) {v : Nat} (hv : v < n) (h : G.getD v false = false) : cntF n (G.set v true) < cntF n G := by
  unfold cntF
  refine filter_lt hv (by rw [h]; rfl) (by rw [gset (by omega)]; simp) fun x hx => ?_
  rw [gset (by omega)] at hx
  by_cases hvx : v = x
  · subst hvx; rw [h]; rfl
  · rw [if_neg hvx] at hx; exact hx
theorem r_ref_Cyclic (n : Nat) (n1 : Bool) (a : List (Int × Int)) (u1 : Tail) (he : Ev n a) (n2 : Bool) (s : List Int) (u2 : Tail) (hs : Ix a.length s) (h : AH) :
    RCall Try.prog n_ref_Cyclic [I n, .sl n1 a.length (prs a) u1, .sl n2 s.length (i64s s) u2] h (.bool (cyB n (sub a s))) := by
  refine RCall.of hm cF_ref_Cyclic (by simp [g_ref_Cyclic]) fun hw h' hl => ?_
  have hx := wf_len (hw _ (.tail _ (.tail _ (.head _))))
  have hn : n ≤ 24 := by have := he.2.1; omega
  have hsa := sub_arc he hs
  have hEiff := fun i j => arcE_iff (n := n) hsa (i := i) (j := j)
  have hElt := arcE_lt hsa
  have hcy := cyB_iff hsa
  generalize arcE n (sub a s) = E at hEiff hElt hcy
  simp only [F_ref_Cyclic, g_ref_Cyclic, go_sem, reduceIte, Nat.reduceEqDiff, Nat.reduceAdd, Nat.reduceMul, Nat.reduceSub, reduceCtorEq, Nat.reduceLeDiff, Nat.reduceLT, Int.reduceLT, Int.reduceLE, Int.reduceToNat, Int.reduceAdd, Int.reduceSub, Int.reduceNeg, Int.reduceMul, Int.reduceEq, ← Bool.decide_and, ← Bool.decide_or, ↓tq_n, ↓tq_e, ↓tq_r, ↓bq_n, ↓bq_e, ↓bq_r, ↓rq_n, ↓rq_r, ↓rq_e]
  refine MakeG.mk (by omega) (Int.le_refl _) (by omega) (by omega) fun b hb => ?_
  rw [flat_rep]
  simp only [F_ref_Cyclic, g_ref_Cyclic, go_sem, reduceIte, Nat.reduceEqDiff, Nat.reduceAdd, Nat.reduceMul, Nat.reduceSub, reduceCtorEq, Nat.reduceLeDiff, Nat.reduceLT, Int.reduceLT, Int.reduceLE, Int.reduceToNat, Int.reduceAdd, Int.reduceSub, Int.reduceNeg, Int.reduceMul, Int.reduceEq, ← Bool.decide_and, ← Bool.decide_or, ↓tq_n, ↓tq_e, ↓tq_r, ↓bq_n, ↓bq_e, ↓bq_r, ↓rq_n, ↓rq_r, ↓rq_e]
  have hrep : ∀ v, (List.replicate n false).getD v false = false := fun v => by rw [List.getD_eq_getElem?_getD, List.getElem?_replicate]; split <;> rfl
  refine awp_loop (α := Bool × List Bool) (fun y => [(0, I n), (1, .sl n1 a.length (prs a) u1), (2, .sl n2 s.length (i64s s) u2), (7, .msl b 0 n (some n)), (8, .bool y.1)]) (fun y => h'.put b (bls y.2))
    (fun y => y.2.length = n ∧ Gone E (fun v => y.2.getD v false = true) ∧ (y.1 = false → ∀ v, v < n → y.2.getD v false = false → ∃ u, E u v ∧ y.2.getD u false = false)) (fun y => if y.1 then cntF n y.2 + 1 else 0) (true, List.replicate n false)
    ⟨by simp, ⟨(fun u v _ hv => by have := (hrep v).symm.trans hv; cases this), (fun v hv => by have := (hrep v).symm.trans hv; cases this)⟩, (fun hh => by cases hh)⟩ (by simp only [bls, List.map_replicate]; exact (GStep.forget (by repeat' first | exact EnvLe.nil _ | refine EnvLe.cons (AV.le.of_eq rfl) ?_ | refine EnvLe.cons (AV.le.undef _) ?_ | refine EnvLe.cons AV.le.unk ?_) (by repeat' first | exact AH.le.refl _ | assumption | (refine AH.le_put ?_ (by first | assumption | exact (AH.blk_put_ne _ _ (by assumption)).trans (by assumption) | exact AH.none_put (by assumption) | exact AH.none_put (AH.none_put (by assumption)) | (simp only [AH.blk_setTok, AH.tok_put] at *; first | assumption | exact AH.none_put (by assumption)))) | (refine AH.le_setTok ?_ (by first | assumption | exact (AH.blk_put_ne _ _ (by assumption)).trans (by assumption) | exact AH.none_put (by assumption) | exact AH.none_put (AH.none_put (by assumption)) | (simp only [AH.blk_setTok, AH.tok_put] at *; first | assumption | exact AH.none_put (by assumption)))) | (refine AH.le_putM ?_ (by first | assumption | exact (AH.mp_putM_ne _ _ (by assumption)).trans (by assumption) | (simp only [AH.mp_put, AH.mp_setTok] at *; assumption)))))) fun y hy => .of_vg hm ?_
  obtain ⟨ag, G0⟩ := y
  obtain ⟨g1, g2, g3⟩ := hy
  simp only at g1 g2 g3 ⊢
  cases ag with
  | false =>
    have g3 := g3 rfl
    simp only [F_ref_Cyclic, g_ref_Cyclic, go_sem, reduceIte, Nat.reduceEqDiff, Nat.reduceAdd, Nat.reduceMul, Nat.reduceSub, reduceCtorEq, Nat.reduceLeDiff, Nat.reduceLT, Int.reduceLT, Int.reduceLE, Int.reduceToNat, Int.reduceAdd, Int.reduceSub, Int.reduceNeg, Int.reduceMul, Int.reduceEq, ← Bool.decide_and, ← Bool.decide_or, ↓tq_n, ↓tq_e, ↓tq_r, ↓bq_n, ↓bq_e, ↓bq_r, ↓rq_n, ↓rq_r, ↓rq_e]
    refine awp_loop (fun v : Nat => [(0, I n), (7, .msl b 0 n (some n)), (12, I v)]) (fun _ => h'.put b (bls G0)) (fun v => v ≤ n ∧ ∀ x, x < v → G0.getD x false = true) (fun v => n - v) 0 ⟨Nat.zero_le _, fun j hj => absurd hj (Nat.not_lt_zero _)⟩ (GStep.forget (by repeat' first | exact EnvLe.nil _ | refine EnvLe.cons (AV.le.of_eq rfl) ?_ | refine EnvLe.cons (AV.le.undef _) ?_ | refine EnvLe.cons AV.le.unk ?_) (by repeat' first | exact AH.le.refl _ | assumption | (refine AH.le_put ?_ (by first | assumption | exact (AH.blk_put_ne _ _ (by assumption)).trans (by assumption) | exact AH.none_put (by assumption) | exact AH.none_put (AH.none_put (by assumption)) | (simp only [AH.blk_setTok, AH.tok_put] at *; first | assumption | exact AH.none_put (by assumption)))) | (refine AH.le_setTok ?_ (by first | assumption | exact (AH.blk_put_ne _ _ (by assumption)).trans (by assumption) | exact AH.none_put (by assumption) | exact AH.none_put (AH.none_put (by assumption)) | (simp only [AH.blk_setTok, AH.tok_put] at *; first | assumption | exact AH.none_put (by assumption)))) | (refine AH.le_putM ?_ (by first | assumption | exact (AH.mp_putM_ne _ _ (by assumption)).trans (by assumption) | (simp only [AH.mp_put, AH.mp_setTok] at *; assumption))))) fun v hv => .of_vg hm ?_
    obtain ⟨v1, v2⟩ := hv
    have hge := gone_end (n := n) hElt g2 (fun v h1 h2 => by
      obtain ⟨u, h3, h4⟩ := g3 v h1 (Bool.eq_false_iff.2 h2)
      exact ⟨u, h3, by rw [h4]; exact fun hh => by cases hh⟩)
    by_cases v3 : v < n
    · have hc : (v : Int) < (n : Int) := by omega
      cases hgv : G0.getD v false with
      | true =>
        simp only [hc, bls_drop (show v < G0.length by omega), hgv, F_ref_Cyclic, g_ref_Cyclic, go_sem, reduceIte, Nat.reduceEqDiff, Nat.reduceAdd, Nat.reduceMul, Nat.reduceSub, reduceCtorEq, Nat.reduceLeDiff, Nat.reduceLT, Int.reduceLT, Int.reduceLE, Int.reduceToNat, Int.reduceAdd, Int.reduceSub, Int.reduceNeg, Int.reduceMul, Int.reduceEq, ← Bool.decide_and, ← Bool.decide_or, ↓tq_n, ↓tq_e, ↓tq_r, ↓bq_n, ↓bq_e, ↓bq_r, ↓rq_n, ↓rq_r, ↓rq_e]
        exact ⟨by rw [inR64]; omega, v + 1, ⟨by omega, all_succ v2 hgv⟩, by omega, (GStep.forget (by repeat' first | exact EnvLe.nil _ | refine EnvLe.cons (AV.le.of_eq rfl) ?_ | refine EnvLe.cons (AV.le.undef _) ?_ | refine EnvLe.cons AV.le.unk ?_) (by repeat' first | exact AH.le.refl _ | assumption | (refine AH.le_put ?_ (by first | assumption | exact (AH.blk_put_ne _ _ (by assumption)).trans (by assumption) | exact AH.none_put (by assumption) | exact AH.none_put (AH.none_put (by assumption)) | (simp only [AH.blk_setTok, AH.tok_put] at *; first | assumption | exact AH.none_put (by assumption)))) | (refine AH.le_setTok ?_ (by first | assumption | exact (AH.blk_put_ne _ _ (by assumption)).trans (by assumption) | exact AH.none_put (by assumption) | exact AH.none_put (AH.none_put (by assumption)) | (simp only [AH.blk_setTok, AH.tok_put] at *; first | assumption | exact AH.none_put (by assumption)))) | (refine AH.le_putM ?_ (by first | assumption | exact (AH.mp_putM_ne _ _ (by assumption)).trans (by assumption) | (simp only [AH.mp_put, AH.mp_setTok] at *; assumption)))))⟩
      | false =>
        simp only [hc, bls_drop (show v < G0.length by omega), hgv, F_ref_Cyclic, g_ref_Cyclic, go_sem, reduceIte, Nat.reduceEqDiff, Nat.reduceAdd, Nat.reduceMul, Nat.reduceSub, reduceCtorEq, Nat.reduceLeDiff, Nat.reduceLT, Int.reduceLT, Int.reduceLE, Int.reduceToNat, Int.reduceAdd, Int.reduceSub, Int.reduceNeg, Int.reduceMul, Int.reduceEq, ← Bool.decide_and, ← Bool.decide_or, ↓tq_n, ↓tq_e, ↓tq_r, ↓bq_n, ↓bq_e, ↓bq_r, ↓rq_n, ↓rq_r, ↓rq_e]
        refine ret_hb (AH.le_put (.refl _) hb) ?_
        rw [hcy.2 (hge.1 ⟨v, v3, by rw [hgv]; exact fun hh => by cases hh⟩)]
    · have v3 : v = n := by omega
      subst v3
      simp only [F_ref_Cyclic, g_ref_Cyclic, go_sem, reduceIte, Nat.reduceEqDiff, Nat.reduceAdd, Nat.reduceMul, Nat.reduceSub, reduceCtorEq, Nat.reduceLeDiff, Nat.reduceLT, Int.reduceLT, Int.reduceLE, Int.reduceToNat, Int.reduceAdd, Int.reduceSub, Int.reduceNeg, Int.reduceMul, Int.reduceEq, ← Bool.decide_and, ← Bool.decide_or, ↓tq_n, ↓tq_e, ↓tq_r, ↓bq_n, ↓bq_e, ↓bq_r, ↓rq_n, ↓rq_r, ↓rq_e]
      refine ret_hb (AH.le_put (.refl _) hb) ?_
      have : cyB v (sub a s) = false := by
        rw [Bool.eq_false_iff]
        intro hh
        obtain ⟨x, h1, h2⟩ := hge.2 (hcy.1 hh)
        exact h2 (v2 x h1)
      rw [this]
  | true =>
    simp only [F_ref_Cyclic, g_ref_Cyclic, go_sem, reduceIte, Nat.reduceEqDiff, Nat.reduceAdd, Nat.reduceMul, Nat.reduceSub, reduceCtorEq, Nat.reduceLeDiff, Nat.reduceLT, Int.reduceLT, Int.reduceLE, Int.reduceToNat, Int.reduceAdd, Int.reduceSub, Int.reduceNeg, Int.reduceMul, Int.reduceEq, ← Bool.decide_and, ← Bool.decide_or, ↓tq_n, ↓tq_e, ↓tq_r, ↓bq_n, ↓bq_e, ↓bq_r, ↓rq_n, ↓rq_r, ↓rq_e]
    refine awp_loop (α := Nat × Bool × List Bool) (fun y => [(0, I n), (1, .sl n1 a.length (prs a) u1), (2, .sl n2 s.length (i64s s) u2), (7, .msl b 0 n (some n)), (8, .bool y.2.1), (9, I y.1)]) (fun y => h'.put b (bls y.2.2))
      (fun y => y.1 ≤ n ∧ y.2.2.length = n ∧ Gone E (fun v => y.2.2.getD v false = true) ∧ (y.2.1 = true → cntF n y.2.2 < cntF n G0) ∧ (y.2.1 = false → y.2.2 = G0 ∧ ∀ v, v < y.1 → y.2.2.getD v false = false → ∃ u, E u v ∧ y.2.2.getD u false = false)) (fun y => n - y.1) (0, false, G0)
      ⟨Nat.zero_le _, g1, g2, (fun hh => by cases hh), fun _ => ⟨rfl, fun v hv => absurd hv (Nat.not_lt_zero _)⟩⟩ (GStep.forget (by repeat' first | exact EnvLe.nil _ | refine EnvLe.cons (AV.le.of_eq rfl) ?_ | refine EnvLe.cons (AV.le.undef _) ?_ | refine EnvLe.cons AV.le.unk ?_) (by repeat' first | exact AH.le.refl _ | assumption | (refine AH.le_put ?_ (by first | assumption | exact (AH.blk_put_ne _ _ (by assumption)).trans (by assumption) | exact AH.none_put (by assumption) | exact AH.none_put (AH.none_put (by assumption)) | (simp only [AH.blk_setTok, AH.tok_put] at *; first | assumption | exact AH.none_put (by assumption)))) | (refine AH.le_setTok ?_ (by first | assumption | exact (AH.blk_put_ne _ _ (by assumption)).trans (by assumption) | exact AH.none_put (by assumption) | exact AH.none_put (AH.none_put (by assumption)) | (simp only [AH.blk_setTok, AH.tok_put] at *; first | assumption | exact AH.none_put (by assumption)))) | (refine AH.le_putM ?_ (by first | assumption | exact (AH.mp_putM_ne _ _ (by assumption)).trans (by assumption) | (simp only [AH.mp_put, AH.mp_setTok] at *; assumption))))) fun y hy => .of_vg hm ?_
    obtain ⟨v, ag, G⟩ := y
    obtain ⟨v1, k1, k2, k3, k4⟩ := hy
    simp only at v1 k1 k2 k3 k4 ⊢
    by_cases v3 : v < n
    case neg =>
      have v3 : v = n := by omega
      subst v3
      simp only [F_ref_Cyclic, g_ref_Cyclic, go_sem, reduceIte, Nat.reduceEqDiff, Nat.reduceAdd, Nat.reduceMul, Nat.reduceSub, reduceCtorEq, Nat.reduceLeDiff, Nat.reduceLT, Int.reduceLT, Int.reduceLE, Int.reduceToNat, Int.reduceAdd, Int.reduceSub, Int.reduceNeg, Int.reduceMul, Int.reduceEq, ← Bool.decide_and, ← Bool.decide_or, ↓tq_n, ↓tq_e, ↓tq_r, ↓bq_n, ↓bq_e, ↓bq_r, ↓rq_n, ↓rq_r, ↓rq_e]
      refine ⟨(ag, G), ⟨k1, k2, fun hh => (k4 hh).2⟩, ?_, (GStep.forget (by repeat' first | exact EnvLe.nil _ | refine EnvLe.cons (AV.le.of_eq rfl) ?_ | refine EnvLe.cons (AV.le.undef _) ?_ | refine EnvLe.cons AV.le.unk ?_) (by repeat' first | exact AH.le.refl _ | assumption | (refine AH.le_put ?_ (by first | assumption | exact (AH.blk_put_ne _ _ (by assumption)).trans (by assumption) | exact AH.none_put (by assumption) | exact AH.none_put (AH.none_put (by assumption)) | (simp only [AH.blk_setTok, AH.tok_put] at *; first | assumption | exact AH.none_put (by assumption)))) | (refine AH.le_setTok ?_ (by first | assumption | exact (AH.blk_put_ne _ _ (by assumption)).trans (by assumption) | exact AH.none_put (by assumption) | exact AH.none_put (AH.none_put (by assumption)) | (simp only [AH.blk_setTok, AH.tok_put] at *; first | assumption | exact AH.none_put (by assumption)))) | (refine AH.le_putM ?_ (by first | assumption | exact (AH.mp_putM_ne _ _ (by assumption)).trans (by assumption) | (simp only [AH.mp_put, AH.mp_setTok] at *; assumption)))))⟩
      cases ag with
      | false => simp
      | true => have := k3 rfl; simp; omega
    have hc : (v : Int) < (n : Int) := by omega
    simp only [hc, bls_drop (show v < G.length by omega), F_ref_Cyclic, g_ref_Cyclic, go_sem, reduceIte, Nat.reduceEqDiff, Nat.reduceAdd, Nat.reduceMul, Nat.reduceSub, reduceCtorEq, Nat.reduceLeDiff, Nat.reduceLT, Int.reduceLT, Int.reduceLE, Int.reduceToNat, Int.reduceAdd, Int.reduceSub, Int.reduceNeg, Int.reduceMul, Int.reduceEq, ← Bool.decide_and, ← Bool.decide_or, ↓tq_n, ↓tq_e, ↓tq_r, ↓bq_n, ↓bq_e, ↓bq_r, ↓rq_n, ↓rq_r, ↓rq_e]
    refine awp_loop (fun i : Nat => [(0, I n), (1, .sl n1 a.length (prs a) u1), (2, .sl n2 s.length (i64s s) u2), (7, .msl b 0 n (some n)), (8, .bool ag), (9, I v), (10, .bool (ledK G (sub a s) v i)), (11, I i)]) (fun _ => h'.put b (bls G)) (fun i => i ≤ s.length) (fun i => s.length - i) 0 (Nat.zero_le _) (GStep.forget (by repeat' first | exact EnvLe.nil _ | refine EnvLe.cons (AV.le.of_eq rfl) ?_ | refine EnvLe.cons (AV.le.undef _) ?_ | refine EnvLe.cons AV.le.unk ?_) (by repeat' first | exact AH.le.refl _ | assumption | (refine AH.le_put ?_ (by first | assumption | exact (AH.blk_put_ne _ _ (by assumption)).trans (by assumption) | exact AH.none_put (by assumption) | exact AH.none_put (AH.none_put (by assumption)) | (simp only [AH.blk_setTok, AH.tok_put] at *; first | assumption | exact AH.none_put (by assumption)))) | (refine AH.le_setTok ?_ (by first | assumption | exact (AH.blk_put_ne _ _ (by assumption)).trans (by assumption) | exact AH.none_put (by assumption) | exact AH.none_put (AH.none_put (by assumption)) | (simp only [AH.blk_setTok, AH.tok_put] at *; first | assumption | exact AH.none_put (by assumption)))) | (refine AH.le_putM ?_ (by first | assumption | exact (AH.mp_putM_ne _ _ (by assumption)).trans (by assumption) | (simp only [AH.mp_put, AH.mp_setTok] at *; assumption))))) fun i hi => .of_vg hm ?_
    by_cases h5 : i < s.length
    · have hci : (i : Int) < (s.length : Int) := by omega
      obtain ⟨i1, i2, i3⟩ := ix_at hs h5
      have hx := ev_at he i3
      have hg := sub_get (a := a) h5
      unfold Arc at hx
      have e1 : ledK G (sub a s) v (i + 1) = (ledK G (sub a s) v i || (decide ((a.getD (s.getD i 0).toNat (0, 0)).2 = v) && !(G.getD (a.getD (s.getD i 0).toNat (0, 0)).1.toNat false))) := by rw [← hg]; rfl
      cases hled : ledK G (sub a s) v i with
      | true =>
        rw [hled, Bool.true_or] at e1
        simp only [hci, F_ref_Cyclic, g_ref_Cyclic, go_sem, reduceIte, Nat.reduceEqDiff, Nat.reduceAdd, Nat.reduceMul, Nat.reduceSub, reduceCtorEq, Nat.reduceLeDiff, Nat.reduceLT, Int.reduceLT, Int.reduceLE, Int.reduceToNat, Int.reduceAdd, Int.reduceSub, Int.reduceNeg, Int.reduceMul, Int.reduceEq, ← Bool.decide_and, ← Bool.decide_or, ↓tq_n, ↓tq_e, ↓tq_r, ↓bq_n, ↓bq_e, ↓bq_r, ↓rq_n, ↓rq_r, ↓rq_e]
        refine ⟨by rw [inR64]; omega, i + 1, by omega, by omega, ?_⟩
        rw [e1]
        exact (GStep.forget (by repeat' first | exact EnvLe.nil _ | refine EnvLe.cons (AV.le.of_eq rfl) ?_ | refine EnvLe.cons (AV.le.undef _) ?_ | refine EnvLe.cons AV.le.unk ?_) (by repeat' first | exact AH.le.refl _ | assumption | (refine AH.le_put ?_ (by first | assumption | exact (AH.blk_put_ne _ _ (by assumption)).trans (by assumption) | exact AH.none_put (by assumption) | exact AH.none_put (AH.none_put (by assumption)) | (simp only [AH.blk_setTok, AH.tok_put] at *; first | assumption | exact AH.none_put (by assumption)))) | (refine AH.le_setTok ?_ (by first | assumption | exact (AH.blk_put_ne _ _ (by assumption)).trans (by assumption) | exact AH.none_put (by assumption) | exact AH.none_put (AH.none_put (by assumption)) | (simp only [AH.blk_setTok, AH.tok_put] at *; first | assumption | exact AH.none_put (by assumption)))) | (refine AH.le_putM ?_ (by first | assumption | exact (AH.mp_putM_ne _ _ (by assumption)).trans (by assumption) | (simp only [AH.mp_put, AH.mp_setTok] at *; assumption)))))
      | false =>
        rw [hled, Bool.false_or] at e1
        by_cases hto : (a.getD (s.getD i 0).toNat (0, 0)).2 = v
        · rw [decide_eq_true hto, Bool.true_and] at e1
          simp only [hci, i64s_drop h5, i1, i2, prs_drop i3, hto, hx.1, hx.2.1, bls_drop (show (a.getD (s.getD i 0).toNat (0, 0)).1.toNat < G.length by omega), F_ref_Cyclic, g_ref_Cyclic, go_sem, reduceIte, Nat.reduceEqDiff, Nat.reduceAdd, Nat.reduceMul, Nat.reduceSub, reduceCtorEq, Nat.reduceLeDiff, Nat.reduceLT, Int.reduceLT, Int.reduceLE, Int.reduceToNat, Int.reduceAdd, Int.reduceSub, Int.reduceNeg, Int.reduceMul, Int.reduceEq, ← Bool.decide_and, ← Bool.decide_or, ↓tq_n, ↓tq_e, ↓tq_r, ↓bq_n, ↓bq_e, ↓bq_r, ↓rq_n, ↓rq_r, ↓rq_e]
          refine ⟨by rw [inR64]; omega, i + 1, by omega, by omega, ?_⟩
          rw [e1]
          exact (GStep.forget (by repeat' first | exact EnvLe.nil _ | refine EnvLe.cons (AV.le.of_eq rfl) ?_ | refine EnvLe.cons (AV.le.undef _) ?_ | refine EnvLe.cons AV.le.unk ?_) (by repeat' first | exact AH.le.refl _ | assumption | (refine AH.le_put ?_ (by first | assumption | exact (AH.blk_put_ne _ _ (by assumption)).trans (by assumption) | exact AH.none_put (by assumption) | exact AH.none_put (AH.none_put (by assumption)) | (simp only [AH.blk_setTok, AH.tok_put] at *; first | assumption | exact AH.none_put (by assumption)))) | (refine AH.le_setTok ?_ (by first | assumption | exact (AH.blk_put_ne _ _ (by assumption)).trans (by assumption) | exact AH.none_put (by assumption) | exact AH.none_put (AH.none_put (by assumption)) | (simp only [AH.blk_setTok, AH.tok_put] at *; first | assumption | exact AH.none_put (by assumption)))) | (refine AH.le_putM ?_ (by first | assumption | exact (AH.mp_putM_ne _ _ (by assumption)).trans (by assumption) | (simp only [AH.mp_put, AH.mp_setTok] at *; assumption)))))
        · rw [decide_eq_false hto, Bool.false_and] at e1
          simp only [hci, i64s_drop h5, i1, i2, prs_drop i3, hto, F_ref_Cyclic, g_ref_Cyclic, go_sem, reduceIte, Nat.reduceEqDiff, Nat.reduceAdd, Nat.reduceMul, Nat.reduceSub, reduceCtorEq, Nat.reduceLeDiff, Nat.reduceLT, Int.reduceLT, Int.reduceLE, Int.reduceToNat, Int.reduceAdd, Int.reduceSub, Int.reduceNeg, Int.reduceMul, Int.reduceEq, ← Bool.decide_and, ← Bool.decide_or, ↓tq_n, ↓tq_e, ↓tq_r, ↓bq_n, ↓bq_e, ↓bq_r, ↓rq_n, ↓rq_r, ↓rq_e]
          refine ⟨by rw [inR64]; omega, i + 1, by omega, by omega, ?_⟩
          rw [e1]
          exact (GStep.forget (by repeat' first | exact EnvLe.nil _ | refine EnvLe.cons (AV.le.of_eq rfl) ?_ | refine EnvLe.cons (AV.le.undef _) ?_ | refine EnvLe.cons AV.le.unk ?_) (by repeat' first | exact AH.le.refl _ | assumption | (refine AH.le_put ?_ (by first | assumption | exact (AH.blk_put_ne _ _ (by assumption)).trans (by assumption) | exact AH.none_put (by assumption) | exact AH.none_put (AH.none_put (by assumption)) | (simp only [AH.blk_setTok, AH.tok_put] at *; first | assumption | exact AH.none_put (by assumption)))) | (refine AH.le_setTok ?_ (by first | assumption | exact (AH.blk_put_ne _ _ (by assumption)).trans (by assumption) | exact AH.none_put (by assumption) | exact AH.none_put (AH.none_put (by assumption)) | (simp only [AH.blk_setTok, AH.tok_put] at *; first | assumption | exact AH.none_put (by assumption)))) | (refine AH.le_putM ?_ (by first | assumption | exact (AH.mp_putM_ne _ _ (by assumption)).trans (by assumption) | (simp only [AH.mp_put, AH.mp_setTok] at *; assumption)))))
    have h5 : i = s.length := by omega
    subst h5
    have hli := ledK_iff (G := G) (b := sub a s) (v := v) s.length
    cases hled : ledK G (sub a s) v s.length with
    | true =>
      simp only [F_ref_Cyclic, g_ref_Cyclic, go_sem, reduceIte, Nat.reduceEqDiff, Nat.reduceAdd, Nat.reduceMul, Nat.reduceSub, reduceCtorEq, Nat.reduceLeDiff, Nat.reduceLT, Int.reduceLT, Int.reduceLE, Int.reduceToNat, Int.reduceAdd, Int.reduceSub, Int.reduceNeg, Int.reduceMul, Int.reduceEq, ← Bool.decide_and, ← Bool.decide_or, ↓tq_n, ↓tq_e, ↓tq_r, ↓bq_n, ↓bq_e, ↓bq_r, ↓rq_n, ↓rq_r, ↓rq_e]
      refine ⟨by rw [inR64]; omega, (v + 1, ag, G), ⟨by simp only; omega, k1, k2, k3, fun hh => ⟨(k4 hh).1, all_succ (k4 hh).2 fun hgv => ?_⟩⟩, by simp only; omega, (GStep.forget (by repeat' first | exact EnvLe.nil _ | refine EnvLe.cons (AV.le.of_eq rfl) ?_ | refine EnvLe.cons (AV.le.undef _) ?_ | refine EnvLe.cons AV.le.unk ?_) (by repeat' first | exact AH.le.refl _ | assumption | (refine AH.le_put ?_ (by first | assumption | exact (AH.blk_put_ne _ _ (by assumption)).trans (by assumption) | exact AH.none_put (by assumption) | exact AH.none_put (AH.none_put (by assumption)) | (simp only [AH.blk_setTok, AH.tok_put] at *; first | assumption | exact AH.none_put (by assumption)))) | (refine AH.le_setTok ?_ (by first | assumption | exact (AH.blk_put_ne _ _ (by assumption)).trans (by assumption) | exact AH.none_put (by assumption) | exact AH.none_put (AH.none_put (by assumption)) | (simp only [AH.blk_setTok, AH.tok_put] at *; first | assumption | exact AH.none_put (by assumption)))) | (refine AH.le_putM ?_ (by first | assumption | exact (AH.mp_putM_ne _ _ (by assumption)).trans (by assumption) | (simp only [AH.mp_put, AH.mp_setTok] at *; assumption)))))⟩
      rcases hli.1 hled with h6 | ⟨q, h6, h7, h8⟩
      · simp only at hgv; rw [h6] at hgv; cases hgv
      · have hq := hsa q (by rw [sub_len]; exact h6)
        obtain ⟨q1, q2, q3, q4⟩ := hq
        refine ⟨((sub a s).getD q (0, 0)).1.toNat, (hEiff _ _).2 ⟨q, by rw [sub_len]; exact h6, Prod.ext ?_ ?_⟩, h8⟩
        · simp only; omega
        · simp only; exact h7
    | false =>
      have hnl : ¬ (G.getD v false = true ∨ ∃ q, q < s.length ∧ ((sub a s).getD q (0, 0)).2 = v ∧ G.getD ((sub a s).getD q (0, 0)).1.toNat false = false) := fun hh => by rw [hli.2 hh] at hled; cases hled
      have hgv : G.getD v false = false := Bool.eq_false_iff.2 fun hh => hnl (.inl hh)
      have hlt := cntF_lt k1 v3 hgv
      have e3 : bls (G.set v true) = (bls G).set v (.bool true) := by simp only [bls, List.map_set]
      simp only [hc, F_ref_Cyclic, g_ref_Cyclic, go_sem, reduceIte, Nat.reduceEqDiff, Nat.reduceAdd, Nat.reduceMul, Nat.reduceSub, reduceCtorEq, Nat.reduceLeDiff, Nat.reduceLT, Int.reduceLT, Int.reduceLE, Int.reduceToNat, Int.reduceAdd, Int.reduceSub, Int.reduceNeg, Int.reduceMul, Int.reduceEq, ← Bool.decide_and, ← Bool.decide_or, ↓tq_n, ↓tq_e, ↓tq_r, ↓bq_n, ↓bq_e, ↓bq_r, ↓rq_n, ↓rq_r, ↓rq_e]
      refine ⟨by rw [bls_len]; omega, by rw [inR64]; omega, (v + 1, true, G.set v true), ⟨by simp only; omega, by simp only [List.length_set]; exact k1, ?_, (fun _ => ?_), (fun hh => by cases hh)⟩, by simp only; omega, ?_⟩
      · have := k2.add (v := v) (by rw [hgv]; exact fun hh => by cases hh) (fun u hu => by
          obtain ⟨q, hq, e⟩ := (hEiff _ _).1 hu
          rw [sub_len] at hq
          refine Classical.byContradiction fun hng => hnl (.inr ⟨q, hq, by rw [e], ?_⟩)
          rw [e]
          exact Bool.eq_false_iff.2 hng)
        have e4 : (fun x => (G.set v true).getD x false = true) = fun x => G.getD x false = true ∨ x = v := by
          funext x
          rw [gset (by omega)]
          by_cases hvx : v = x
          · subst hvx; simp
          · have : ¬ x = v := fun hh => hvx hh.symm
            simp [hvx, this]
        simp only
        rw [e4]
        exact this
      · simp only
        cases ag with
        | true => have := k3 rfl; omega
        | false => rw [(k4 rfl).1] at hlt ⊢; exact hlt
      · rw [e3]; exact (GStep.forget (by repeat' first | exact EnvLe.nil _ | refine EnvLe.cons (AV.le.of_eq rfl) ?_ | refine EnvLe.cons (AV.le.undef _) ?_ | refine EnvLe.cons AV.le.unk ?_) (by repeat' first | exact AH.le.refl _ | assumption | (refine AH.le_put ?_ (by first | assumption | exact (AH.blk_put_ne _ _ (by assumption)).trans (by assumption) | exact AH.none_put (by assumption) | exact AH.none_put (AH.none_put (by assumption)) | (simp only [AH.blk_setTok, AH.tok_put] at *; first | assumption | exact AH.none_put (by assumption)))) | (refine AH.le_setTok ?_ (by first | assumption | exact (AH.blk_put_ne _ _ (by assumption)).trans (by assumption) | exact AH.none_put (by assumption) | exact AH.none_put (AH.none_put (by assumption)) | (simp only [AH.blk_setTok, AH.tok_put] at *; first | assumption | exact AH.none_put (by assumption)))) | (refine AH.le_putM ?_ (by first | assumption | exact (AH.mp_putM_ne _ _ (by assumption)).trans (by assumption) | (simp only [AH.mp_put, AH.mp_setTok] at *; assumption)))))
end Go.Proofs.Ytgfidbejffhalaa
