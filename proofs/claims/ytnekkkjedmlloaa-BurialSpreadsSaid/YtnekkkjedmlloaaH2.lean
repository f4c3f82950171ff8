/- Calls of functions of this seat's program: latest types, lists of hoards, first years. No condition. -/
import Derived.Test.YtnekkkjedmlloaaH1
namespace Go.Proofs.Ytnekkkjedmlloaa
open Go Go.Abs
set_option linter.unusedSimpArgs false
set_option linter.unusedVariables false
set_option maxRecDepth 20000

/-- The latest type of a hoard, and its year. -/
def latE (x : Hd) (t : List (Int × Int)) : Option (Int × Int) := lat t x.coins x.coins.length
def latestV (x : Hd) (t : List (Int × Int)) : AV := if Hv x ∧ Ls (-9999) 9999 t then (match latE x t with | some s => .tup [I s.1, I 0] | none => .tup [I 0, I 7]) else .tup [I 0, I 1]
theorem lat_step {t coins : List (Int × Int)} {i : Nat} {s : Int × Int} {y : Int} (h : lat t coins i = some s) (hy : val t (coins.getD i (0, 0)).1 = some y) : lat t coins (i + 1) = some (latS y (coins.getD i (0, 0)).1 s) := by rw [lat, h, hy]
theorem lat_stop {t coins : List (Int × Int)} {i : Nat} (hi : i < coins.length) (hy : val t (coins.getD i (0, 0)).1 = none) : lat t coins coins.length = none := by
  have h1 : lat t coins (i + 1) = none := by
    rw [lat, hy]
    split
    · rename_i h1 h2; cases h2
    · rfl
  have := lat_none h1 (coins.length - (i + 1))
  rwa [show i + 1 + (coins.length - (i + 1)) = coins.length by omega] at this

theorem r_hoard_Latest (x : Hd) (nl : Bool) (t : List (Int × Int)) (tl : Tail) (h : AH) : RCall Try.prog n_hoard_Latest [.st x.cs, .sl nl t.length (prs t) tl] h (latestV x t) := by
  refine RCall.of hm cF_hoard_Latest (by simp [g_hoard_Latest]) fun hw h' hl => ?_
  simp only [Hd.cs, F_hoard_Latest, g_hoard_Latest, go_sem, reduceIte, Nat.reduceEqDiff, Nat.reduceAdd, Nat.reduceMul, Nat.reduceSub, reduceCtorEq, Nat.reduceLeDiff, Nat.reduceLT, Int.reduceLT, Int.reduceLE, Int.reduceToNat, Int.reduceAdd, Int.reduceSub, Int.reduceNeg, Int.reduceMul, Int.reduceEq, ← Bool.decide_and, ← Bool.decide_or, ↓tq_n, ↓tq_e, ↓tq_r, ↓bq_n, ↓bq_e, ↓bq_r, ↓rq_n, ↓rq_r, ↓rq_e]
  refine CallG.mk (r_hoard_Valid x _) ?_
  unfold latestV
  by_cases h1 : Hv x
  case neg =>
    simp only [decide_eq_false h1, F_hoard_Latest, g_hoard_Latest, go_sem, reduceIte, Nat.reduceEqDiff, Nat.reduceAdd, Nat.reduceMul, Nat.reduceSub, reduceCtorEq, Nat.reduceLeDiff, Nat.reduceLT, Int.reduceLT, Int.reduceLE, Int.reduceToNat, Int.reduceAdd, Int.reduceSub, Int.reduceNeg, Int.reduceMul, Int.reduceEq, ← Bool.decide_and, ← Bool.decide_or, ↓tq_n, ↓tq_e, ↓tq_r, ↓bq_n, ↓bq_e, ↓bq_r, ↓rq_n, ↓rq_r, ↓rq_e]
    exact ret_ok (by simp [h1])
  simp only [decide_eq_true h1, F_hoard_Latest, g_hoard_Latest, go_sem, reduceIte, Nat.reduceEqDiff, Nat.reduceAdd, Nat.reduceMul, Nat.reduceSub, reduceCtorEq, Nat.reduceLeDiff, Nat.reduceLT, Int.reduceLT, Int.reduceLE, Int.reduceToNat, Int.reduceAdd, Int.reduceSub, Int.reduceNeg, Int.reduceMul, Int.reduceEq, ← Bool.decide_and, ← Bool.decide_or, ↓tq_n, ↓tq_e, ↓tq_r, ↓bq_n, ↓bq_e, ↓bq_r, ↓rq_n, ↓rq_r, ↓rq_e]
  refine CallG.mk (r_hoard_listedG (-9999) 9999 nl t tl _) ?_
  by_cases h2 : Ls (-9999) 9999 t
  case neg =>
    simp only [decide_eq_false h2, F_hoard_Latest, g_hoard_Latest, go_sem, reduceIte, Nat.reduceEqDiff, Nat.reduceAdd, Nat.reduceMul, Nat.reduceSub, reduceCtorEq, Nat.reduceLeDiff, Nat.reduceLT, Int.reduceLT, Int.reduceLE, Int.reduceToNat, Int.reduceAdd, Int.reduceSub, Int.reduceNeg, Int.reduceMul, Int.reduceEq, ← Bool.decide_and, ← Bool.decide_or, ↓tq_n, ↓tq_e, ↓tq_r, ↓bq_n, ↓bq_e, ↓bq_r, ↓rq_n, ↓rq_r, ↓rq_e]
    exact ret_ok (by simp [h2])
  simp only [decide_eq_true h2, F_hoard_Latest, g_hoard_Latest, go_sem, reduceIte, Nat.reduceEqDiff, Nat.reduceAdd, Nat.reduceMul, Nat.reduceSub, reduceCtorEq, Nat.reduceLeDiff, Nat.reduceLT, Int.reduceLT, Int.reduceLE, Int.reduceToNat, Int.reduceAdd, Int.reduceSub, Int.reduceNeg, Int.reduceMul, Int.reduceEq, ← Bool.decide_and, ← Bool.decide_or, ↓tq_n, ↓tq_e, ↓tq_r, ↓bq_n, ↓bq_e, ↓bq_r, ↓rq_n, ↓rq_r, ↓rq_e]
  have hl32 := h1.2.1.2
  refine awp_loop (fun p : Nat × (Int × Int) => [(1, .sl nl t.length (prs t) tl), (6, I p.2.1), (7, I p.2.2), (21, .sl x.nl x.coins.length (prs x.coins) x.tl), (22, I x.coins.length), (23, I p.1)]) (fun _ => h') (fun p => p.1 ≤ x.coins.length ∧ lat t x.coins p.1 = some p.2) (fun p => x.coins.length - p.1) (0, (0, 0)) ⟨Nat.zero_le _, rfl⟩ (GStep.forget (by repeat' first | exact EnvLe.nil _ | refine EnvLe.cons (AV.le.of_eq rfl) ?_ | refine EnvLe.cons (AV.le.undef _) ?_ | refine EnvLe.cons AV.le.unk ?_) (by repeat' first | exact AH.le.refl _ | assumption | (refine AH.le_put ?_ (by first | assumption | exact (AH.blk_put_ne _ _ (by assumption)).trans (by assumption) | exact AH.none_put (by assumption) | exact AH.none_put (AH.none_put (by assumption)) | (simp only [AH.blk_setTok, AH.tok_put] at *; first | assumption | exact AH.none_put (by assumption)))) | (refine AH.le_setTok ?_ (by first | assumption | exact (AH.blk_put_ne _ _ (by assumption)).trans (by assumption) | exact AH.none_put (by assumption) | exact AH.none_put (AH.none_put (by assumption)) | (simp only [AH.blk_setTok, AH.tok_put] at *; first | assumption | exact AH.none_put (by assumption)))) | (refine AH.le_putM ?_ (by first | assumption | exact (AH.mp_putM_ne _ _ (by assumption)).trans (by assumption) | (simp only [AH.mp_put, AH.mp_setTok] at *; assumption))))) fun p hp => .of_vg hm ?_
  obtain ⟨i, s⟩ := p
  obtain ⟨h3, h4⟩ := hp
  simp only at h3 h4 ⊢
  by_cases h5 : i < x.coins.length
  · have hc : (i : Int) < (x.coins.length : Int) := by omega
    simp only [hc, prs_drop h5, F_hoard_Latest, g_hoard_Latest, go_sem, reduceIte, Nat.reduceEqDiff, Nat.reduceAdd, Nat.reduceMul, Nat.reduceSub, reduceCtorEq, Nat.reduceLeDiff, Nat.reduceLT, Int.reduceLT, Int.reduceLE, Int.reduceToNat, Int.reduceAdd, Int.reduceSub, Int.reduceNeg, Int.reduceMul, Int.reduceEq, ← Bool.decide_and, ← Bool.decide_or, ↓tq_n, ↓tq_e, ↓tq_r, ↓bq_n, ↓bq_e, ↓bq_r, ↓rq_n, ↓rq_r, ↓rq_e]
    refine CallG.mk (r_hoard_value nl t tl _ _) ?_
    cases hv : val t (x.coins.getD i (0, 0)).1 with
    | none =>
      simp only [Option.isSome, F_hoard_Latest, g_hoard_Latest, go_sem, reduceIte, Nat.reduceEqDiff, Nat.reduceAdd, Nat.reduceMul, Nat.reduceSub, reduceCtorEq, Nat.reduceLeDiff, Nat.reduceLT, Int.reduceLT, Int.reduceLE, Int.reduceToNat, Int.reduceAdd, Int.reduceSub, Int.reduceNeg, Int.reduceMul, Int.reduceEq, ← Bool.decide_and, ← Bool.decide_or, ↓tq_n, ↓tq_e, ↓tq_r, ↓bq_n, ↓bq_e, ↓bq_r, ↓rq_n, ↓rq_r, ↓rq_e]
      refine ret_ok ?_
      simp [h1, h2, latE, lat_stop h5 hv]
    | some y =>
      have hst := lat_step h4 hv
      simp only [Option.isSome, F_hoard_Latest, g_hoard_Latest, go_sem, reduceIte, Nat.reduceEqDiff, Nat.reduceAdd, Nat.reduceMul, Nat.reduceSub, reduceCtorEq, Nat.reduceLeDiff, Nat.reduceLT, Int.reduceLT, Int.reduceLE, Int.reduceToNat, Int.reduceAdd, Int.reduceSub, Int.reduceNeg, Int.reduceMul, Int.reduceEq, ← Bool.decide_and, ← Bool.decide_or, ↓tq_n, ↓tq_e, ↓tq_r, ↓bq_n, ↓bq_e, ↓bq_r, ↓rq_n, ↓rq_r, ↓rq_e]
      refine ⟨fun h6 => ⟨by rw [inR64]; omega, (i + 1, latS y (x.coins.getD i (0, 0)).1 s), ⟨by simp only; omega, hst⟩, by simp only; omega, ?_⟩, fun h6 => ⟨fun h7 => ⟨by rw [inR64]; omega, (i + 1, latS y (x.coins.getD i (0, 0)).1 s), ⟨by simp only; omega, hst⟩, by simp only; omega, ?_⟩, fun h7 => ⟨by rw [inR64]; omega, (i + 1, latS y (x.coins.getD i (0, 0)).1 s), ⟨by simp only; omega, hst⟩, by simp only; omega, ?_⟩⟩⟩
      · have : latS y (x.coins.getD i (0, 0)).1 s = ((x.coins.getD i (0, 0)).1, y) := by unfold latS; rw [if_pos (.inl h6)]
        rw [this]
        exact (GStep.forget (by repeat' first | exact EnvLe.nil _ | refine EnvLe.cons (AV.le.of_eq rfl) ?_ | refine EnvLe.cons (AV.le.undef _) ?_ | refine EnvLe.cons AV.le.unk ?_) (by repeat' first | exact AH.le.refl _ | assumption | (refine AH.le_put ?_ (by first | assumption | exact (AH.blk_put_ne _ _ (by assumption)).trans (by assumption) | exact AH.none_put (by assumption) | exact AH.none_put (AH.none_put (by assumption)) | (simp only [AH.blk_setTok, AH.tok_put] at *; first | assumption | exact AH.none_put (by assumption)))) | (refine AH.le_setTok ?_ (by first | assumption | exact (AH.blk_put_ne _ _ (by assumption)).trans (by assumption) | exact AH.none_put (by assumption) | exact AH.none_put (AH.none_put (by assumption)) | (simp only [AH.blk_setTok, AH.tok_put] at *; first | assumption | exact AH.none_put (by assumption)))) | (refine AH.le_putM ?_ (by first | assumption | exact (AH.mp_putM_ne _ _ (by assumption)).trans (by assumption) | (simp only [AH.mp_put, AH.mp_setTok] at *; assumption)))))
      · have : latS y (x.coins.getD i (0, 0)).1 s = ((x.coins.getD i (0, 0)).1, y) := by unfold latS; rw [if_pos (.inr h7)]
        rw [this]
        exact (GStep.forget (by repeat' first | exact EnvLe.nil _ | refine EnvLe.cons (AV.le.of_eq rfl) ?_ | refine EnvLe.cons (AV.le.undef _) ?_ | refine EnvLe.cons AV.le.unk ?_) (by repeat' first | exact AH.le.refl _ | assumption | (refine AH.le_put ?_ (by first | assumption | exact (AH.blk_put_ne _ _ (by assumption)).trans (by assumption) | exact AH.none_put (by assumption) | exact AH.none_put (AH.none_put (by assumption)) | (simp only [AH.blk_setTok, AH.tok_put] at *; first | assumption | exact AH.none_put (by assumption)))) | (refine AH.le_setTok ?_ (by first | assumption | exact (AH.blk_put_ne _ _ (by assumption)).trans (by assumption) | exact AH.none_put (by assumption) | exact AH.none_put (AH.none_put (by assumption)) | (simp only [AH.blk_setTok, AH.tok_put] at *; first | assumption | exact AH.none_put (by assumption)))) | (refine AH.le_putM ?_ (by first | assumption | exact (AH.mp_putM_ne _ _ (by assumption)).trans (by assumption) | (simp only [AH.mp_put, AH.mp_setTok] at *; assumption)))))
      · have : latS y (x.coins.getD i (0, 0)).1 s = s := by unfold latS; rw [if_neg (by omega)]
        rw [this]
        exact (GStep.forget (by repeat' first | exact EnvLe.nil _ | refine EnvLe.cons (AV.le.of_eq rfl) ?_ | refine EnvLe.cons (AV.le.undef _) ?_ | refine EnvLe.cons AV.le.unk ?_) (by repeat' first | exact AH.le.refl _ | assumption | (refine AH.le_put ?_ (by first | assumption | exact (AH.blk_put_ne _ _ (by assumption)).trans (by assumption) | exact AH.none_put (by assumption) | exact AH.none_put (AH.none_put (by assumption)) | (simp only [AH.blk_setTok, AH.tok_put] at *; first | assumption | exact AH.none_put (by assumption)))) | (refine AH.le_setTok ?_ (by first | assumption | exact (AH.blk_put_ne _ _ (by assumption)).trans (by assumption) | exact AH.none_put (by assumption) | exact AH.none_put (AH.none_put (by assumption)) | (simp only [AH.blk_setTok, AH.tok_put] at *; first | assumption | exact AH.none_put (by assumption)))) | (refine AH.le_putM ?_ (by first | assumption | exact (AH.mp_putM_ne _ _ (by assumption)).trans (by assumption) | (simp only [AH.mp_put, AH.mp_setTok] at *; assumption)))))
  · have h5 : i = x.coins.length := by omega
    subst h5
    simp only [F_hoard_Latest, g_hoard_Latest, go_sem, reduceIte, Nat.reduceEqDiff, Nat.reduceAdd, Nat.reduceMul, Nat.reduceSub, reduceCtorEq, Nat.reduceLeDiff, Nat.reduceLT, Int.reduceLT, Int.reduceLE, Int.reduceToNat, Int.reduceAdd, Int.reduceSub, Int.reduceNeg, Int.reduceMul, Int.reduceEq, ← Bool.decide_and, ← Bool.decide_or, ↓tq_n, ↓tq_e, ↓tq_r, ↓bq_n, ↓bq_e, ↓bq_r, ↓rq_n, ↓rq_r, ↓rq_e]
    refine ret_ok ?_
    simp [h1, h2, latE, h4]

/-- The reference goes through all entries. -/
def fnd (t : List (Int × Int)) (k : Int) (s : Int × Int) : Nat → Bool × (Int × Int)
  | 0 => (false, s)
  | i + 1 => if (t.getD i (0, 0)).1 = k then (true, latS (t.getD i (0, 0)).2 k (fnd t k s i).2) else fnd t k s i
theorem fnd_val {t : List (Int × Int)} (ha : Asc1 t) (k : Int) (s : Int × Int) : fnd t k s t.length = (match val t k with | some y => (true, latS y k s) | none => (false, s)) := by
  by_cases hi : 0 ≤ idx t k
  · obtain ⟨a1, a2, a3⟩ := idx_spec hi
    have before : ∀ i, i ≤ (idx t k).toNat → fnd t k s i = (false, s) := by
      intro i
      induction i with
      | zero => intro _; rfl
      | succ i ih =>
        intro h
        rw [fnd, if_neg (a3 i (by omega)), ih (by omega)]
    have after : ∀ d, (idx t k).toNat + 1 + d ≤ t.length → fnd t k s ((idx t k).toNat + 1 + d) = (true, latS (t.getD (idx t k).toNat (0, 0)).2 k s) := by
      intro d
      induction d with
      | zero => intro _; rw [Nat.add_zero, fnd, if_pos a2, before _ (Nat.le_refl _)]
      | succ d ih =>
        intro h
        rw [← Nat.add_assoc, fnd, if_neg (fun hk => by
          have := asc1_inj ha (i := (idx t k).toNat + 1 + d) (j := (idx t k).toNat) (by omega) a1 (by rw [hk, a2])
          omega), ih (by omega)]
    have := after (t.length - ((idx t k).toNat + 1)) (by omega)
    rw [show (idx t k).toNat + 1 + (t.length - ((idx t k).toNat + 1)) = t.length by omega] at this
    rw [this]
    simp [val, hi]
  · have all : ∀ i, i ≤ t.length → fnd t k s i = (false, s) := by
      intro i
      induction i with
      | zero => intro _; rfl
      | succ i ih =>
        intro h
        rw [fnd, if_neg (idx_none hi i (by omega)), ih (by omega)]
    rw [all _ (Nat.le_refl _)]
    simp [val, hi]

theorem r_ref_Latest (x : Hd) (nl : Bool) (t : List (Int × Int)) (tl : Tail) (h : AH) : RCall Try.prog n_ref_Latest [.st x.cs, .sl nl t.length (prs t) tl] h (latestV x t) := by
  refine RCall.of hm cF_ref_Latest (by simp [g_ref_Latest]) fun hw h' hl => ?_
  simp only [Hd.cs, F_ref_Latest, g_ref_Latest, go_sem, reduceIte, Nat.reduceEqDiff, Nat.reduceAdd, Nat.reduceMul, Nat.reduceSub, reduceCtorEq, Nat.reduceLeDiff, Nat.reduceLT, Int.reduceLT, Int.reduceLE, Int.reduceToNat, Int.reduceAdd, Int.reduceSub, Int.reduceNeg, Int.reduceMul, Int.reduceEq, ← Bool.decide_and, ← Bool.decide_or, ↓tq_n, ↓tq_e, ↓tq_r, ↓bq_n, ↓bq_e, ↓bq_r, ↓rq_n, ↓rq_r, ↓rq_e]
  refine CallG.mk (r_base_Hoard x _) ?_
  unfold latestV
  by_cases h1 : Hv x
  case neg =>
    simp only [decide_eq_false h1, F_ref_Latest, g_ref_Latest, go_sem, reduceIte, Nat.reduceEqDiff, Nat.reduceAdd, Nat.reduceMul, Nat.reduceSub, reduceCtorEq, Nat.reduceLeDiff, Nat.reduceLT, Int.reduceLT, Int.reduceLE, Int.reduceToNat, Int.reduceAdd, Int.reduceSub, Int.reduceNeg, Int.reduceMul, Int.reduceEq, ← Bool.decide_and, ← Bool.decide_or, ↓tq_n, ↓tq_e, ↓tq_r, ↓bq_n, ↓bq_e, ↓bq_r, ↓rq_n, ↓rq_r, ↓rq_e]
    exact ret_ok (by simp [h1])
  simp only [decide_eq_true h1, F_ref_Latest, g_ref_Latest, go_sem, reduceIte, Nat.reduceEqDiff, Nat.reduceAdd, Nat.reduceMul, Nat.reduceSub, reduceCtorEq, Nat.reduceLeDiff, Nat.reduceLT, Int.reduceLT, Int.reduceLE, Int.reduceToNat, Int.reduceAdd, Int.reduceSub, Int.reduceNeg, Int.reduceMul, Int.reduceEq, ← Bool.decide_and, ← Bool.decide_or, ↓tq_n, ↓tq_e, ↓tq_r, ↓bq_n, ↓bq_e, ↓bq_r, ↓rq_n, ↓rq_r, ↓rq_e]
  refine CallG.mk (r_ref_Issues nl t tl _) ?_
  by_cases h2 : Ls (-9999) 9999 t
  case neg =>
    simp only [decide_eq_false h2, F_ref_Latest, g_ref_Latest, go_sem, reduceIte, Nat.reduceEqDiff, Nat.reduceAdd, Nat.reduceMul, Nat.reduceSub, reduceCtorEq, Nat.reduceLeDiff, Nat.reduceLT, Int.reduceLT, Int.reduceLE, Int.reduceToNat, Int.reduceAdd, Int.reduceSub, Int.reduceNeg, Int.reduceMul, Int.reduceEq, ← Bool.decide_and, ← Bool.decide_or, ↓tq_n, ↓tq_e, ↓tq_r, ↓bq_n, ↓bq_e, ↓bq_r, ↓rq_n, ↓rq_r, ↓rq_e]
    exact ret_ok (by simp [h2])
  simp only [decide_eq_true h2, F_ref_Latest, g_ref_Latest, go_sem, reduceIte, Nat.reduceEqDiff, Nat.reduceAdd, Nat.reduceMul, Nat.reduceSub, reduceCtorEq, Nat.reduceLeDiff, Nat.reduceLT, Int.reduceLT, Int.reduceLE, Int.reduceToNat, Int.reduceAdd, Int.reduceSub, Int.reduceNeg, Int.reduceMul, Int.reduceEq, ← Bool.decide_and, ← Bool.decide_or, ↓tq_n, ↓tq_e, ↓tq_r, ↓bq_n, ↓bq_e, ↓bq_r, ↓rq_n, ↓rq_r, ↓rq_e]
  have hl32 := h1.2.1.2
  have hl99 := ls_len h2
  have hasc := or_asc (ls_iff.1 h2).1
  refine awp_loop (fun p : Nat × (Int × Int) => [(1, .sl nl t.length (prs t) tl), (2, .sptr x.cs), (6, I p.2.1), (7, I p.2.2), (8, I p.1)]) (fun _ => h') (fun p => p.1 ≤ x.coins.length ∧ lat t x.coins p.1 = some p.2) (fun p => x.coins.length - p.1) (0, (0, 0)) ⟨Nat.zero_le _, rfl⟩ (GStep.forget (by repeat' first | exact EnvLe.nil _ | refine EnvLe.cons (AV.le.of_eq rfl) ?_ | refine EnvLe.cons (AV.le.undef _) ?_ | refine EnvLe.cons AV.le.unk ?_) (by repeat' first | exact AH.le.refl _ | assumption | (refine AH.le_put ?_ (by first | assumption | exact (AH.blk_put_ne _ _ (by assumption)).trans (by assumption) | exact AH.none_put (by assumption) | exact AH.none_put (AH.none_put (by assumption)) | (simp only [AH.blk_setTok, AH.tok_put] at *; first | assumption | exact AH.none_put (by assumption)))) | (refine AH.le_setTok ?_ (by first | assumption | exact (AH.blk_put_ne _ _ (by assumption)).trans (by assumption) | exact AH.none_put (by assumption) | exact AH.none_put (AH.none_put (by assumption)) | (simp only [AH.blk_setTok, AH.tok_put] at *; first | assumption | exact AH.none_put (by assumption)))) | (refine AH.le_putM ?_ (by first | assumption | exact (AH.mp_putM_ne _ _ (by assumption)).trans (by assumption) | (simp only [AH.mp_put, AH.mp_setTok] at *; assumption))))) fun p hp => .of_vg hm ?_
  obtain ⟨i, s⟩ := p
  obtain ⟨h3, h4⟩ := hp
  simp only at h3 h4 ⊢
  by_cases h5 : i < x.coins.length
  case neg =>
    have h5 : i = x.coins.length := by omega
    subst h5
    simp only [Hd.cs, F_ref_Latest, g_ref_Latest, go_sem, reduceIte, Nat.reduceEqDiff, Nat.reduceAdd, Nat.reduceMul, Nat.reduceSub, reduceCtorEq, Nat.reduceLeDiff, Nat.reduceLT, Int.reduceLT, Int.reduceLE, Int.reduceToNat, Int.reduceAdd, Int.reduceSub, Int.reduceNeg, Int.reduceMul, Int.reduceEq, ← Bool.decide_and, ← Bool.decide_or, ↓tq_n, ↓tq_e, ↓tq_r, ↓bq_n, ↓bq_e, ↓bq_r, ↓rq_n, ↓rq_r, ↓rq_e]
    refine ret_ok ?_
    simp [h1, h2, latE, h4]
  have hc : (i : Int) < (x.coins.length : Int) := by omega
  obtain ⟨k, hk⟩ : ∃ k, k = (x.coins.getD i (0, 0)).1 := ⟨_, rfl⟩
  have hpd := prs_drop (e := x.coins) h5
  rw [← hk] at hpd
  simp only [hc, Hd.cs, F_ref_Latest, g_ref_Latest, go_sem, reduceIte, Nat.reduceEqDiff, Nat.reduceAdd, Nat.reduceMul, Nat.reduceSub, reduceCtorEq, Nat.reduceLeDiff, Nat.reduceLT, Int.reduceLT, Int.reduceLE, Int.reduceToNat, Int.reduceAdd, Int.reduceSub, Int.reduceNeg, Int.reduceMul, Int.reduceEq, ← Bool.decide_and, ← Bool.decide_or, ↓tq_n, ↓tq_e, ↓tq_r, ↓bq_n, ↓bq_e, ↓bq_r, ↓rq_n, ↓rq_r, ↓rq_e]
  refine awp_loop (fun m : Nat => [(1, .sl nl t.length (prs t) tl), (2, .sptr x.cs), (6, I (fnd t k s m).2.1), (7, I (fnd t k s m).2.2), (8, I i), (9, .bool (fnd t k s m).1), (10, I m)]) (fun _ => h') (fun m => m ≤ t.length) (fun m => t.length - m) 0 (Nat.zero_le _) (GStep.forget (by repeat' first | exact EnvLe.nil _ | refine EnvLe.cons (AV.le.of_eq rfl) ?_ | refine EnvLe.cons (AV.le.undef _) ?_ | refine EnvLe.cons AV.le.unk ?_) (by repeat' first | exact AH.le.refl _ | assumption | (refine AH.le_put ?_ (by first | assumption | exact (AH.blk_put_ne _ _ (by assumption)).trans (by assumption) | exact AH.none_put (by assumption) | exact AH.none_put (AH.none_put (by assumption)) | (simp only [AH.blk_setTok, AH.tok_put] at *; first | assumption | exact AH.none_put (by assumption)))) | (refine AH.le_setTok ?_ (by first | assumption | exact (AH.blk_put_ne _ _ (by assumption)).trans (by assumption) | exact AH.none_put (by assumption) | exact AH.none_put (AH.none_put (by assumption)) | (simp only [AH.blk_setTok, AH.tok_put] at *; first | assumption | exact AH.none_put (by assumption)))) | (refine AH.le_putM ?_ (by first | assumption | exact (AH.mp_putM_ne _ _ (by assumption)).trans (by assumption) | (simp only [AH.mp_put, AH.mp_setTok] at *; assumption))))) fun m hm' => .of_vg hm ?_
  by_cases h6 : m < t.length
  · have hc2 : (m : Int) < (t.length : Int) := by omega
    by_cases h7 : (t.getD m (0, 0)).1 = k
    · have e1 : fnd t k s (m + 1) = (true, latS (t.getD m (0, 0)).2 k (fnd t k s m).2) := by rw [fnd, if_pos h7]
      have e2 : ∀ y, latS y k (fnd t k s m).2 = if (fnd t k s m).2.1 = 0 ∨ (fnd t k s m).2.2 ≤ y then (k, y) else (fnd t k s m).2 := fun _ => rfl
      simp only [hc, hc2, Hd.cs, prs_drop h6, hpd, h7, F_ref_Latest, g_ref_Latest, go_sem, reduceIte, Nat.reduceEqDiff, Nat.reduceAdd, Nat.reduceMul, Nat.reduceSub, reduceCtorEq, Nat.reduceLeDiff, Nat.reduceLT, Int.reduceLT, Int.reduceLE, Int.reduceToNat, Int.reduceAdd, Int.reduceSub, Int.reduceNeg, Int.reduceMul, Int.reduceEq, ← Bool.decide_and, ← Bool.decide_or, ↓tq_n, ↓tq_e, ↓tq_r, ↓bq_n, ↓bq_e, ↓bq_r, ↓rq_n, ↓rq_r, ↓rq_e]
      refine ⟨fun h8 => ⟨by rw [inR64]; omega, m + 1, by omega, by omega, ?_⟩, fun h8 => ⟨fun h9 => ⟨by rw [inR64]; omega, m + 1, by omega, by omega, ?_⟩, fun h9 => ⟨by rw [inR64]; omega, m + 1, by omega, by omega, ?_⟩⟩⟩
      · rw [e1, e2, if_pos (.inl h8)]
        exact (GStep.forget (by repeat' first | exact EnvLe.nil _ | refine EnvLe.cons (AV.le.of_eq rfl) ?_ | refine EnvLe.cons (AV.le.undef _) ?_ | refine EnvLe.cons AV.le.unk ?_) (by repeat' first | exact AH.le.refl _ | assumption | (refine AH.le_put ?_ (by first | assumption | exact (AH.blk_put_ne _ _ (by assumption)).trans (by assumption) | exact AH.none_put (by assumption) | exact AH.none_put (AH.none_put (by assumption)) | (simp only [AH.blk_setTok, AH.tok_put] at *; first | assumption | exact AH.none_put (by assumption)))) | (refine AH.le_setTok ?_ (by first | assumption | exact (AH.blk_put_ne _ _ (by assumption)).trans (by assumption) | exact AH.none_put (by assumption) | exact AH.none_put (AH.none_put (by assumption)) | (simp only [AH.blk_setTok, AH.tok_put] at *; first | assumption | exact AH.none_put (by assumption)))) | (refine AH.le_putM ?_ (by first | assumption | exact (AH.mp_putM_ne _ _ (by assumption)).trans (by assumption) | (simp only [AH.mp_put, AH.mp_setTok] at *; assumption)))))
      · rw [e1, e2, if_pos (.inr h9)]
        exact (GStep.forget (by repeat' first | exact EnvLe.nil _ | refine EnvLe.cons (AV.le.of_eq rfl) ?_ | refine EnvLe.cons (AV.le.undef _) ?_ | refine EnvLe.cons AV.le.unk ?_) (by repeat' first | exact AH.le.refl _ | assumption | (refine AH.le_put ?_ (by first | assumption | exact (AH.blk_put_ne _ _ (by assumption)).trans (by assumption) | exact AH.none_put (by assumption) | exact AH.none_put (AH.none_put (by assumption)) | (simp only [AH.blk_setTok, AH.tok_put] at *; first | assumption | exact AH.none_put (by assumption)))) | (refine AH.le_setTok ?_ (by first | assumption | exact (AH.blk_put_ne _ _ (by assumption)).trans (by assumption) | exact AH.none_put (by assumption) | exact AH.none_put (AH.none_put (by assumption)) | (simp only [AH.blk_setTok, AH.tok_put] at *; first | assumption | exact AH.none_put (by assumption)))) | (refine AH.le_putM ?_ (by first | assumption | exact (AH.mp_putM_ne _ _ (by assumption)).trans (by assumption) | (simp only [AH.mp_put, AH.mp_setTok] at *; assumption)))))
      · rw [e1, e2, if_neg (by omega)]
        exact (GStep.forget (by repeat' first | exact EnvLe.nil _ | refine EnvLe.cons (AV.le.of_eq rfl) ?_ | refine EnvLe.cons (AV.le.undef _) ?_ | refine EnvLe.cons AV.le.unk ?_) (by repeat' first | exact AH.le.refl _ | assumption | (refine AH.le_put ?_ (by first | assumption | exact (AH.blk_put_ne _ _ (by assumption)).trans (by assumption) | exact AH.none_put (by assumption) | exact AH.none_put (AH.none_put (by assumption)) | (simp only [AH.blk_setTok, AH.tok_put] at *; first | assumption | exact AH.none_put (by assumption)))) | (refine AH.le_setTok ?_ (by first | assumption | exact (AH.blk_put_ne _ _ (by assumption)).trans (by assumption) | exact AH.none_put (by assumption) | exact AH.none_put (AH.none_put (by assumption)) | (simp only [AH.blk_setTok, AH.tok_put] at *; first | assumption | exact AH.none_put (by assumption)))) | (refine AH.le_putM ?_ (by first | assumption | exact (AH.mp_putM_ne _ _ (by assumption)).trans (by assumption) | (simp only [AH.mp_put, AH.mp_setTok] at *; assumption)))))
    · have e1 : fnd t k s (m + 1) = fnd t k s m := by rw [fnd, if_neg h7]
      simp only [hc, hc2, Hd.cs, prs_drop h6, hpd, h7, F_ref_Latest, g_ref_Latest, go_sem, reduceIte, Nat.reduceEqDiff, Nat.reduceAdd, Nat.reduceMul, Nat.reduceSub, reduceCtorEq, Nat.reduceLeDiff, Nat.reduceLT, Int.reduceLT, Int.reduceLE, Int.reduceToNat, Int.reduceAdd, Int.reduceSub, Int.reduceNeg, Int.reduceMul, Int.reduceEq, ← Bool.decide_and, ← Bool.decide_or, ↓tq_n, ↓tq_e, ↓tq_r, ↓bq_n, ↓bq_e, ↓bq_r, ↓rq_n, ↓rq_r, ↓rq_e]
      refine ⟨by rw [inR64]; omega, m + 1, by omega, by omega, ?_⟩
      rw [e1]
      exact (GStep.forget (by repeat' first | exact EnvLe.nil _ | refine EnvLe.cons (AV.le.of_eq rfl) ?_ | refine EnvLe.cons (AV.le.undef _) ?_ | refine EnvLe.cons AV.le.unk ?_) (by repeat' first | exact AH.le.refl _ | assumption | (refine AH.le_put ?_ (by first | assumption | exact (AH.blk_put_ne _ _ (by assumption)).trans (by assumption) | exact AH.none_put (by assumption) | exact AH.none_put (AH.none_put (by assumption)) | (simp only [AH.blk_setTok, AH.tok_put] at *; first | assumption | exact AH.none_put (by assumption)))) | (refine AH.le_setTok ?_ (by first | assumption | exact (AH.blk_put_ne _ _ (by assumption)).trans (by assumption) | exact AH.none_put (by assumption) | exact AH.none_put (AH.none_put (by assumption)) | (simp only [AH.blk_setTok, AH.tok_put] at *; first | assumption | exact AH.none_put (by assumption)))) | (refine AH.le_putM ?_ (by first | assumption | exact (AH.mp_putM_ne _ _ (by assumption)).trans (by assumption) | (simp only [AH.mp_put, AH.mp_setTok] at *; assumption)))))
  have h6 : m = t.length := by omega
  subst h6
  rw [fnd_val hasc]
  cases hv : val t k with
  | none =>
    simp only [F_ref_Latest, g_ref_Latest, go_sem, reduceIte, Nat.reduceEqDiff, Nat.reduceAdd, Nat.reduceMul, Nat.reduceSub, reduceCtorEq, Nat.reduceLeDiff, Nat.reduceLT, Int.reduceLT, Int.reduceLE, Int.reduceToNat, Int.reduceAdd, Int.reduceSub, Int.reduceNeg, Int.reduceMul, Int.reduceEq, ← Bool.decide_and, ← Bool.decide_or, ↓tq_n, ↓tq_e, ↓tq_r, ↓bq_n, ↓bq_e, ↓bq_r, ↓rq_n, ↓rq_r, ↓rq_e]
    refine ret_ok ?_
    simp [h1, h2, latE, lat_stop h5 (by rw [← hk]; exact hv)]
  | some y =>
    have hst := lat_step h4 (by rw [← hk]; exact hv)
    rw [← hk] at hst
    simp only [F_ref_Latest, g_ref_Latest, go_sem, reduceIte, Nat.reduceEqDiff, Nat.reduceAdd, Nat.reduceMul, Nat.reduceSub, reduceCtorEq, Nat.reduceLeDiff, Nat.reduceLT, Int.reduceLT, Int.reduceLE, Int.reduceToNat, Int.reduceAdd, Int.reduceSub, Int.reduceNeg, Int.reduceMul, Int.reduceEq, ← Bool.decide_and, ← Bool.decide_or, ↓tq_n, ↓tq_e, ↓tq_r, ↓bq_n, ↓bq_e, ↓bq_r, ↓rq_n, ↓rq_r, ↓rq_e]
    exact ⟨by rw [inR64]; omega, (i + 1, latS y k s), ⟨by simp only; omega, hst⟩, by simp only; omega, (GStep.forget (by repeat' first | exact EnvLe.nil _ | refine EnvLe.cons (AV.le.of_eq rfl) ?_ | refine EnvLe.cons (AV.le.undef _) ?_ | refine EnvLe.cons AV.le.unk ?_) (by repeat' first | exact AH.le.refl _ | assumption | (refine AH.le_put ?_ (by first | assumption | exact (AH.blk_put_ne _ _ (by assumption)).trans (by assumption) | exact AH.none_put (by assumption) | exact AH.none_put (AH.none_put (by assumption)) | (simp only [AH.blk_setTok, AH.tok_put] at *; first | assumption | exact AH.none_put (by assumption)))) | (refine AH.le_setTok ?_ (by first | assumption | exact (AH.blk_put_ne _ _ (by assumption)).trans (by assumption) | exact AH.none_put (by assumption) | exact AH.none_put (AH.none_put (by assumption)) | (simp only [AH.blk_setTok, AH.tok_put] at *; first | assumption | exact AH.none_put (by assumption)))) | (refine AH.le_putM ?_ (by first | assumption | exact (AH.mp_putM_ne _ _ (by assumption)).trans (by assumption) | (simp only [AH.mp_put, AH.mp_setTok] at *; assumption)))))⟩
end Go.Proofs.Ytnekkkjedmlloaa
