/- Calls of functions of this seat's program: the law DatingLess. No condition. -/
import Derived.Test.YtcicklmlbdfneaaD22
namespace Go.Proofs.Ytcicklmlbdfneaa
open Go Go.Abs
set_option linter.unusedSimpArgs false
set_option linter.unusedVariables false
set_option maxRecDepth 20000

def shf (k i : Nat) : Nat := if i < k then i else i + 1
theorem erase_get {α : Type} {l : List α} {d : α} {k i : Nat} (hi : i < (l.eraseIdx k).length) : shf k i < l.length ∧ (l.eraseIdx k).getD i d = l.getD (shf k i) d := by
  rw [List.length_eraseIdx] at hi
  have hs : shf k i < l.length := by
    unfold shf
    split at hi <;> split <;> omega
  refine ⟨hs, ?_⟩
  simp only [List.getD, List.getElem?_eraseIdx, shf]
  split <;> rfl
theorem erase_take {α : Type} {l : List α} (d : α) {i k : Nat} (h : i < l.length) : (l.take (i + 1)).eraseIdx k = if i = k then (l.take i).eraseIdx k else (l.take i).eraseIdx k ++ [l.getD i d] := by
  have hl : (l.take i).length = i := by rw [List.length_take]; omega
  rw [take_getD d h]
  split
  · rename_i hik
    subst hik
    rw [List.eraseIdx_append_of_length_le (by omega), hl, Nat.sub_self, List.eraseIdx_of_length_le (l := l.take i) (by omega)]
    simp
  · rename_i hik
    by_cases hlt : k < i
    · rw [List.eraseIdx_append_of_lt_length (by omega)]
    · rw [List.eraseIdx_of_length_le (by simp; omega), List.eraseIdx_of_length_le (l := l.take i) (by omega)]

/-- A chronology whose hoards and gaps are among those of another one. -/
theorem sub_ok {c c2 : Cr} (hv : VC c) (ht : c2.ty = c.ty) (l1 : c2.ho.length ≤ 6) (l2 : c2.ga.length ≤ 16) (σ τ : Nat → Nat) (hσ : ∀ i, i < c2.ho.length → σ i < c.ho.length ∧ c2.ho.getD i dH = c.ho.getD (σ i) dH)
    (hτ : ∀ i, i < c2.ga.length → τ i < c.ga.length ∧ c2.ga.getD i (0, 0, 0) = c.ga.getD (τ i) (0, 0, 0)) :
    VC c2 ∧ (Ok c → Ok c2 ∧ ∀ i, i < c.ty.length → (loT c2).getD i 0 ≤ (loT c).getD i 0 ∧ (hiT c).getD i 0 ≤ (hiT c2).getD i 0) := by
  have v2 : VC c2 := by
    obtain ⟨v1, w2, v3, v4⟩ := hv
    refine ⟨⟨by rw [ht]; exact v1.1, l1, l2⟩, by rw [ht]; exact w2, fun i hi => ?_, fun i hi => ?_⟩
    · rw [(hσ i hi).2, ht]; exact v3 _ (hσ i hi).1
    · rw [(hτ i hi).2, ht]; exact v4 _ (hτ i hi).1
  have key : ∀ t h, DT c t h → DT c2 t ((List.range c2.ho.length).map fun i => h.getD (σ i) 0) := by
    rintro t h ⟨_, d2, d3, d4, d5, d6⟩
    refine ⟨v2, by rw [ht]; exact d2, by simp, by rw [ht]; exact d4, fun i hi => ?_, fun i hi => ?_⟩
    · have := d5 _ (hσ i hi).1
      rw [← (hσ i hi).2] at this
      rw [getD_rmap _ hi]
      exact this
    · have := d6 _ (hτ i hi).1
      rw [← (hτ i hi).2] at this
      exact this
  refine ⟨v2, fun ho => ?_⟩
  obtain ⟨e1, e2⟩ := ends_dt hv ho
  have b1 := dt_between (key _ _ e1)
  have b2 := dt_between (key _ _ e2)
  exact ⟨b1.1, fun i hi => ⟨(b1.2.1 i (by rw [ht]; exact hi)).1, (b2.2.1 i (by rw [ht]; exact hi)).2⟩⟩

set_option maxHeartbeats 2000000 in
theorem r_law_DatingLess (c : Cr) (k0 : Int) (h : AH) : RCall Try.prog n_law_DatingLess [.st c.cs, I k0] h (.bool true) := by
  refine RCall.of hm cF_law_DatingLess (by simp [g_law_DatingLess]) fun hw h' hl => ?_
  simp only [Cr.cs, F_law_DatingLess, g_law_DatingLess, go_sem, reduceIte, Nat.reduceEqDiff, Nat.reduceAdd, Nat.reduceMul, Nat.reduceSub, reduceCtorEq, Nat.reduceLeDiff, Nat.reduceLT, Int.reduceLT, Int.reduceLE, Int.reduceToNat, Int.reduceAdd, Int.reduceSub, Int.reduceNeg, Int.reduceMul, Int.reduceEq, ← Bool.decide_and, ← Bool.decide_or, ↓tq_n, ↓tq_e, ↓tq_r, ↓bq_n, ↓bq_e, ↓bq_r, ↓rq_n, ↓rq_r, ↓rq_e]
  refine CallG.mk (r_law_awake _) ?_
  simp only [F_law_DatingLess, g_law_DatingLess, go_sem, reduceIte, Nat.reduceEqDiff, Nat.reduceAdd, Nat.reduceMul, Nat.reduceSub, reduceCtorEq, Nat.reduceLeDiff, Nat.reduceLT, Int.reduceLT, Int.reduceLE, Int.reduceToNat, Int.reduceAdd, Int.reduceSub, Int.reduceNeg, Int.reduceMul, Int.reduceEq, ← Bool.decide_and, ← Bool.decide_or, ↓tq_n, ↓tq_e, ↓tq_r, ↓bq_n, ↓bq_e, ↓bq_r, ↓rq_n, ↓rq_r, ↓rq_e]
  refine CallG.mk (r_law_few c _) ?_
  simp only [F_law_DatingLess, g_law_DatingLess, go_sem, reduceIte, Nat.reduceEqDiff, Nat.reduceAdd, Nat.reduceMul, Nat.reduceSub, reduceCtorEq, Nat.reduceLeDiff, Nat.reduceLT, Int.reduceLT, Int.reduceLE, Int.reduceToNat, Int.reduceAdd, Int.reduceSub, Int.reduceNeg, Int.reduceMul, Int.reduceEq, ← Bool.decide_and, ← Bool.decide_or, ↓tq_n, ↓tq_e, ↓tq_r, ↓bq_n, ↓bq_e, ↓bq_r, ↓rq_n, ↓rq_r, ↓rq_e]
  refine ⟨fun h1 => CallG.mk (r_law_awake _) ?_, fun h1 => CallG.mk (r_ref_Valid c _) ?_⟩
  · simp only [F_law_DatingLess, g_law_DatingLess, go_sem, reduceIte, Nat.reduceEqDiff, Nat.reduceAdd, Nat.reduceMul, Nat.reduceSub, reduceCtorEq, Nat.reduceLeDiff, Nat.reduceLT, Int.reduceLT, Int.reduceLE, Int.reduceToNat, Int.reduceAdd, Int.reduceSub, Int.reduceNeg, Int.reduceMul, Int.reduceEq, ← Bool.decide_and, ← Bool.decide_or, ↓tq_n, ↓tq_e, ↓tq_r, ↓bq_n, ↓bq_e, ↓bq_r, ↓rq_n, ↓rq_r, ↓rq_e]; exact ret_ok rfl
  by_cases hv : VC c
  case neg =>
    simp only [decide_eq_false hv, F_law_DatingLess, g_law_DatingLess, go_sem, reduceIte, Nat.reduceEqDiff, Nat.reduceAdd, Nat.reduceMul, Nat.reduceSub, reduceCtorEq, Nat.reduceLeDiff, Nat.reduceLT, Int.reduceLT, Int.reduceLE, Int.reduceToNat, Int.reduceAdd, Int.reduceSub, Int.reduceNeg, Int.reduceMul, Int.reduceEq, ← Bool.decide_and, ← Bool.decide_or, ↓tq_n, ↓tq_e, ↓tq_r, ↓bq_n, ↓bq_e, ↓bq_r, ↓rq_n, ↓rq_r, ↓rq_e]
    refine CallG.mk (r_law_awake _) ?_
    simp only [F_law_DatingLess, g_law_DatingLess, go_sem, reduceIte, Nat.reduceEqDiff, Nat.reduceAdd, Nat.reduceMul, Nat.reduceSub, reduceCtorEq, Nat.reduceLeDiff, Nat.reduceLT, Int.reduceLT, Int.reduceLE, Int.reduceToNat, Int.reduceAdd, Int.reduceSub, Int.reduceNeg, Int.reduceMul, Int.reduceEq, ← Bool.decide_and, ← Bool.decide_or, ↓tq_n, ↓tq_e, ↓tq_r, ↓bq_n, ↓bq_e, ↓bq_r, ↓rq_n, ↓rq_r, ↓rq_e]
    exact ret_ok rfl
  obtain ⟨b8, b6, b16⟩ := hv.1
  have isum : InR .i64 ((c.ho.length : Int) + (c.ga.length : Int)) := by rw [inR64]; omega
  by_cases hz : (c.ho.length : Int) + (c.ga.length : Int) = 0
  · simp only [decide_eq_true hv, isum, hz, F_law_DatingLess, g_law_DatingLess, go_sem, reduceIte, Nat.reduceEqDiff, Nat.reduceAdd, Nat.reduceMul, Nat.reduceSub, reduceCtorEq, Nat.reduceLeDiff, Nat.reduceLT, Int.reduceLT, Int.reduceLE, Int.reduceToNat, Int.reduceAdd, Int.reduceSub, Int.reduceNeg, Int.reduceMul, Int.reduceEq, ← Bool.decide_and, ← Bool.decide_or, ↓tq_n, ↓tq_e, ↓tq_r, ↓bq_n, ↓bq_e, ↓bq_r, ↓rq_n, ↓rq_r, ↓rq_e]
    refine ⟨by rw [inR64]; omega, CallG.mk (r_law_awake _) ?_⟩
    simp only [F_law_DatingLess, g_law_DatingLess, go_sem, reduceIte, Nat.reduceEqDiff, Nat.reduceAdd, Nat.reduceMul, Nat.reduceSub, reduceCtorEq, Nat.reduceLeDiff, Nat.reduceLT, Int.reduceLT, Int.reduceLE, Int.reduceToNat, Int.reduceAdd, Int.reduceSub, Int.reduceNeg, Int.reduceMul, Int.reduceEq, ← Bool.decide_and, ← Bool.decide_or, ↓tq_n, ↓tq_e, ↓tq_r, ↓bq_n, ↓bq_e, ↓bq_r, ↓rq_n, ↓rq_r, ↓rq_e]
    exact ret_ok rfl
  simp only [decide_eq_true hv, isum, hz, F_law_DatingLess, g_law_DatingLess, go_sem, reduceIte, Nat.reduceEqDiff, Nat.reduceAdd, Nat.reduceMul, Nat.reduceSub, reduceCtorEq, Nat.reduceLeDiff, Nat.reduceLT, Int.reduceLT, Int.reduceLE, Int.reduceToNat, Int.reduceAdd, Int.reduceSub, Int.reduceNeg, Int.reduceMul, Int.reduceEq, ← Bool.decide_and, ← Bool.decide_or, ↓tq_n, ↓tq_e, ↓tq_r, ↓bq_n, ↓bq_e, ↓bq_r, ↓rq_n, ↓rq_r, ↓rq_e]
  refine CallG.mk (r_base_Mod k0 ((c.ho.length : Int) + (c.ga.length : Int)) _ (by omega)) ?_
  have n1 := Int.emod_nonneg k0 hz
  have n2 := Int.emod_lt_of_pos k0 (show (0 : Int) < (c.ho.length : Int) + (c.ga.length : Int) by omega)
  obtain ⟨k, hk⟩ : ∃ k : Nat, k0 % ((c.ho.length : Int) + (c.ga.length : Int)) = k := ⟨(k0 % ((c.ho.length : Int) + (c.ga.length : Int))).toNat, by omega⟩
  rw [hk] at n1 n2 ⊢
  obtain ⟨g, hg⟩ : ∃ g, g = if c.ho.length ≤ k then k - c.ho.length else c.ga.length := ⟨_, rfl⟩
  simp only [F_law_DatingLess, g_law_DatingLess, go_sem, reduceIte, Nat.reduceEqDiff, Nat.reduceAdd, Nat.reduceMul, Nat.reduceSub, reduceCtorEq, Nat.reduceLeDiff, Nat.reduceLT, Int.reduceLT, Int.reduceLE, Int.reduceToNat, Int.reduceAdd, Int.reduceSub, Int.reduceNeg, Int.reduceMul, Int.reduceEq, ← Bool.decide_and, ← Bool.decide_or, ↓tq_n, ↓tq_e, ↓tq_r, ↓bq_n, ↓bq_e, ↓bq_r, ↓rq_n, ↓rq_r, ↓rq_e]
  refine AllocG.mk fun b5 hb5 => ?_
  simp only [F_law_DatingLess, g_law_DatingLess, go_sem, reduceIte, Nat.reduceEqDiff, Nat.reduceAdd, Nat.reduceMul, Nat.reduceSub, reduceCtorEq, Nat.reduceLeDiff, Nat.reduceLT, Int.reduceLT, Int.reduceLE, Int.reduceToNat, Int.reduceAdd, Int.reduceSub, Int.reduceNeg, Int.reduceMul, Int.reduceEq, ← Bool.decide_and, ← Bool.decide_or, ↓tq_n, ↓tq_e, ↓tq_r, ↓bq_n, ↓bq_e, ↓bq_r, ↓rq_n, ↓rq_r, ↓rq_e]
  refine awp_tokB b5 1 4 (nl := true) (n := 0) (cs := []) (AH.blk_put _ _ _) rfl fun t ht => ?_
  have ht0 : h'.tok t = none := ht
  refine awp_loop (fun i : Nat => [(1, I k), (2, .sptr c.cs), (5, .ptr b5 0), (6, I i)]) (fun i => (h'.setTok t ((c.ho.take i).eraseIdx k).length 4).put b5 [.sl c.nlT c.ty.length (prs c.ty) c.tlT, gl (((c.ho.take i).eraseIdx k).flatMap Hd.cs) ((c.ho.take i).eraseIdx k).length (.tok t), .sl true 0 [] .full]) (fun i => i ≤ c.ho.length) (fun i => c.ho.length - i) 0 (Nat.zero_le _) (by rw [AH.put_put, AH.put_setTok]; exact (GStep.forget (by repeat' first | exact EnvLe.nil _ | refine EnvLe.cons (AV.le.of_eq rfl) ?_ | refine EnvLe.cons (AV.le.undef _) ?_ | refine EnvLe.cons AV.le.unk ?_) (by repeat' first | exact AH.le.refl _ | assumption | (refine AH.le_put ?_ (by first | assumption | exact (AH.blk_put_ne _ _ (by assumption)).trans (by assumption) | exact AH.none_put (by assumption) | exact AH.none_put (AH.none_put (by assumption)) | (simp only [AH.blk_setTok, AH.tok_put] at *; first | assumption | exact AH.none_put (by assumption)))) | (refine AH.le_setTok ?_ (by first | assumption | exact (AH.blk_put_ne _ _ (by assumption)).trans (by assumption) | exact AH.none_put (by assumption) | exact AH.none_put (AH.none_put (by assumption)) | (simp only [AH.blk_setTok, AH.tok_put] at *; first | assumption | exact AH.none_put (by assumption)))) | (refine AH.le_putM ?_ (by first | assumption | exact (AH.mp_putM_ne _ _ (by assumption)).trans (by assumption) | (simp only [AH.mp_put, AH.mp_setTok] at *; assumption)))))) fun i hi => .of_vg hm ?_
  by_cases h3 : i < c.ho.length
  · have hc3 : (i : Int) < (c.ho.length : Int) := by omega
    have e1 := erase_take dH (k := k) h3
    have hle : ((c.ho.take i).eraseIdx k).length ≤ 6 := Nat.le_trans (List.length_eraseIdx_le _ _) (by rw [List.length_take]; omega)
    by_cases h4 : i = k
    · rw [if_pos h4] at e1
      subst h4
      simp only [Cr.cs, hc3, F_law_DatingLess, g_law_DatingLess, go_sem, reduceIte, Nat.reduceEqDiff, Nat.reduceAdd, Nat.reduceMul, Nat.reduceSub, reduceCtorEq, Nat.reduceLeDiff, Nat.reduceLT, Int.reduceLT, Int.reduceLE, Int.reduceToNat, Int.reduceAdd, Int.reduceSub, Int.reduceNeg, Int.reduceMul, Int.reduceEq, ← Bool.decide_and, ← Bool.decide_or, ↓tq_n, ↓tq_e, ↓tq_r, ↓bq_n, ↓bq_e, ↓bq_r, ↓rq_n, ↓rq_r, ↓rq_e]
      refine ⟨by rw [inR64]; omega, i + 1, by omega, by omega, ?_⟩
      rw [e1]
      exact (GStep.forget (by repeat' first | exact EnvLe.nil _ | refine EnvLe.cons (AV.le.of_eq rfl) ?_ | refine EnvLe.cons (AV.le.undef _) ?_ | refine EnvLe.cons AV.le.unk ?_) (by repeat' first | exact AH.le.refl _ | assumption | (refine AH.le_put ?_ (by first | assumption | exact (AH.blk_put_ne _ _ (by assumption)).trans (by assumption) | exact AH.none_put (by assumption) | exact AH.none_put (AH.none_put (by assumption)) | (simp only [AH.blk_setTok, AH.tok_put] at *; first | assumption | exact AH.none_put (by assumption)))) | (refine AH.le_setTok ?_ (by first | assumption | exact (AH.blk_put_ne _ _ (by assumption)).trans (by assumption) | exact AH.none_put (by assumption) | exact AH.none_put (AH.none_put (by assumption)) | (simp only [AH.blk_setTok, AH.tok_put] at *; first | assumption | exact AH.none_put (by assumption)))) | (refine AH.le_putM ?_ (by first | assumption | exact (AH.mp_putM_ne _ _ (by assumption)).trans (by assumption) | (simp only [AH.mp_put, AH.mp_setTok] at *; assumption)))))
    · have hc4 : ¬ (i : Int) = (k : Int) := by omega
      rw [if_neg h4] at e1
      simp only [Cr.cs, hc3, hc4, hds_drop h3, F_law_DatingLess, g_law_DatingLess, go_sem, reduceIte, Nat.reduceEqDiff, Nat.reduceAdd, Nat.reduceMul, Nat.reduceSub, reduceCtorEq, Nat.reduceLeDiff, Nat.reduceLT, Int.reduceLT, Int.reduceLE, Int.reduceToNat, Int.reduceAdd, Int.reduceSub, Int.reduceNeg, Int.reduceMul, Int.reduceEq, ← Bool.decide_and, ← Bool.decide_or, ↓tq_n, ↓tq_e, ↓tq_r, ↓bq_n, ↓bq_e, ↓bq_r, ↓rq_n, ↓rq_r, ↓rq_e]
      refine ⟨flat_len hd_len _, by omega, by omega, by rw [inR64]; omega, i + 1, by omega, by omega, ?_⟩
      rw [e1, List.flatMap_append, List.flatMap_singleton, List.length_append]
      simp only [Hd.cs]
      exact (GStep.forget (by repeat' first | exact EnvLe.nil _ | refine EnvLe.cons (AV.le.of_eq rfl) ?_ | refine EnvLe.cons (AV.le.undef _) ?_ | refine EnvLe.cons AV.le.unk ?_) (by repeat' first | exact AH.le.refl _ | assumption | (refine AH.le_put ?_ (by first | assumption | exact (AH.blk_put_ne _ _ (by assumption)).trans (by assumption) | exact AH.none_put (by assumption) | exact AH.none_put (AH.none_put (by assumption)) | (simp only [AH.blk_setTok, AH.tok_put] at *; first | assumption | exact AH.none_put (by assumption)))) | (refine AH.le_setTok ?_ (by first | assumption | exact (AH.blk_put_ne _ _ (by assumption)).trans (by assumption) | exact AH.none_put (by assumption) | exact AH.none_put (AH.none_put (by assumption)) | (simp only [AH.blk_setTok, AH.tok_put] at *; first | assumption | exact AH.none_put (by assumption)))) | (refine AH.le_putM ?_ (by first | assumption | exact (AH.mp_putM_ne _ _ (by assumption)).trans (by assumption) | (simp only [AH.mp_put, AH.mp_setTok] at *; assumption)))))
  have h3 : i = c.ho.length := by omega
  subst h3
  clear hi
  rw [List.take_length]
  simp only [Cr.cs, F_law_DatingLess, g_law_DatingLess, go_sem, reduceIte, Nat.reduceEqDiff, Nat.reduceAdd, Nat.reduceMul, Nat.reduceSub, reduceCtorEq, Nat.reduceLeDiff, Nat.reduceLT, Int.reduceLT, Int.reduceLE, Int.reduceToNat, Int.reduceAdd, Int.reduceSub, Int.reduceNeg, Int.reduceMul, Int.reduceEq, ← Bool.decide_and, ← Bool.decide_or, ↓tq_n, ↓tq_e, ↓tq_r, ↓bq_n, ↓bq_e, ↓bq_r, ↓rq_n, ↓rq_r, ↓rq_e]
  refine awp_tokB b5 2 3 (nl := true) (n := 0) (cs := []) (AH.blk_put _ _ _) rfl fun u hu => ?_
  have hu0 : h'.tok u = none := by
    have hne : u ≠ t := fun hh => by subst hh; rw [AH.tok_put, AH.tok_setTok] at hu; cases hu
    simp only [AH.setTok, AH.put] at hu
    rw [if_neg hne] at hu
    exact hu
  refine awp_loop (fun i : Nat => [(1, I k), (2, .sptr c.cs), (5, .ptr b5 0), (7, I i)]) (fun i => (h'.setTok u ((c.ga.take i).eraseIdx g).length 3).put b5 [.sl c.nlT c.ty.length (prs c.ty) c.tlT, gl ((c.ho.eraseIdx k).flatMap Hd.cs) (c.ho.eraseIdx k).length (.tok t), gl (trs ((c.ga.take i).eraseIdx g)) ((c.ga.take i).eraseIdx g).length (.tok u)]) (fun i => i ≤ c.ga.length) (fun i => c.ga.length - i) 0 (Nat.zero_le _) ?_ fun i hi => .of_vg hm ?_
  · refine GStep.forget (by repeat' first | exact EnvLe.nil _ | refine EnvLe.cons (AV.le.of_eq rfl) ?_ | refine EnvLe.cons (AV.le.undef _) ?_ | refine EnvLe.cons AV.le.unk ?_) ?_
    simp only [List.set_cons_zero, List.set_cons_succ, AH.put_setTok, AH.put_put]
    exact AH.le_put2 (AH.le_setTok2 (AH.le_setTok (.refl _) ht0))
  by_cases h3 : i < c.ga.length
  · have hc3 : (i : Int) < (c.ga.length : Int) := by omega
    have e1 := erase_take (0, 0, 0) (k := g) h3
    have hle : ((c.ga.take i).eraseIdx g).length ≤ 16 := Nat.le_trans (List.length_eraseIdx_le _ _) (by rw [List.length_take]; omega)
    have hgi : i = g ↔ c.ho.length + i = k := by rw [hg]; split <;> omega
    have hin : InR .i64 ((c.ho.length : Int) + (i : Int)) := by rw [inR64]; omega
    by_cases h4 : i = g
    · have hc4 : (c.ho.length : Int) + (i : Int) = (k : Int) := by have := hgi.1 h4; omega
      rw [if_pos h4] at e1
      simp only [Cr.cs, hc3, hin, hc4, F_law_DatingLess, g_law_DatingLess, go_sem, reduceIte, Nat.reduceEqDiff, Nat.reduceAdd, Nat.reduceMul, Nat.reduceSub, reduceCtorEq, Nat.reduceLeDiff, Nat.reduceLT, Int.reduceLT, Int.reduceLE, Int.reduceToNat, Int.reduceAdd, Int.reduceSub, Int.reduceNeg, Int.reduceMul, Int.reduceEq, ← Bool.decide_and, ← Bool.decide_or, ↓tq_n, ↓tq_e, ↓tq_r, ↓bq_n, ↓bq_e, ↓bq_r, ↓rq_n, ↓rq_r, ↓rq_e]
      refine ⟨by rw [inR64]; omega, by rw [inR64]; omega, i + 1, by omega, by omega, ?_⟩
      rw [e1]
      exact (GStep.forget (by repeat' first | exact EnvLe.nil _ | refine EnvLe.cons (AV.le.of_eq rfl) ?_ | refine EnvLe.cons (AV.le.undef _) ?_ | refine EnvLe.cons AV.le.unk ?_) (by repeat' first | exact AH.le.refl _ | assumption | (refine AH.le_put ?_ (by first | assumption | exact (AH.blk_put_ne _ _ (by assumption)).trans (by assumption) | exact AH.none_put (by assumption) | exact AH.none_put (AH.none_put (by assumption)) | (simp only [AH.blk_setTok, AH.tok_put] at *; first | assumption | exact AH.none_put (by assumption)))) | (refine AH.le_setTok ?_ (by first | assumption | exact (AH.blk_put_ne _ _ (by assumption)).trans (by assumption) | exact AH.none_put (by assumption) | exact AH.none_put (AH.none_put (by assumption)) | (simp only [AH.blk_setTok, AH.tok_put] at *; first | assumption | exact AH.none_put (by assumption)))) | (refine AH.le_putM ?_ (by first | assumption | exact (AH.mp_putM_ne _ _ (by assumption)).trans (by assumption) | (simp only [AH.mp_put, AH.mp_setTok] at *; assumption)))))
    · have hc4 : ¬ (c.ho.length : Int) + (i : Int) = (k : Int) := fun hh => h4 (hgi.2 (by omega))
      rw [if_neg h4] at e1
      simp only [Cr.cs, hc3, hin, hc4, trs_drop h3, F_law_DatingLess, g_law_DatingLess, go_sem, reduceIte, Nat.reduceEqDiff, Nat.reduceAdd, Nat.reduceMul, Nat.reduceSub, reduceCtorEq, Nat.reduceLeDiff, Nat.reduceLT, Int.reduceLT, Int.reduceLE, Int.reduceToNat, Int.reduceAdd, Int.reduceSub, Int.reduceNeg, Int.reduceMul, Int.reduceEq, ← Bool.decide_and, ← Bool.decide_or, ↓tq_n, ↓tq_e, ↓tq_r, ↓bq_n, ↓bq_e, ↓bq_r, ↓rq_n, ↓rq_r, ↓rq_e]
      refine ⟨trs_len _, by omega, by omega, by rw [inR64]; omega, i + 1, by omega, by omega, ?_⟩
      rw [e1, trs_append, trs_one, List.length_append]
      exact (GStep.forget (by repeat' first | exact EnvLe.nil _ | refine EnvLe.cons (AV.le.of_eq rfl) ?_ | refine EnvLe.cons (AV.le.undef _) ?_ | refine EnvLe.cons AV.le.unk ?_) (by repeat' first | exact AH.le.refl _ | assumption | (refine AH.le_put ?_ (by first | assumption | exact (AH.blk_put_ne _ _ (by assumption)).trans (by assumption) | exact AH.none_put (by assumption) | exact AH.none_put (AH.none_put (by assumption)) | (simp only [AH.blk_setTok, AH.tok_put] at *; first | assumption | exact AH.none_put (by assumption)))) | (refine AH.le_setTok ?_ (by first | assumption | exact (AH.blk_put_ne _ _ (by assumption)).trans (by assumption) | exact AH.none_put (by assumption) | exact AH.none_put (AH.none_put (by assumption)) | (simp only [AH.blk_setTok, AH.tok_put] at *; first | assumption | exact AH.none_put (by assumption)))) | (refine AH.le_putM ?_ (by first | assumption | exact (AH.mp_putM_ne _ _ (by assumption)).trans (by assumption) | (simp only [AH.mp_put, AH.mp_setTok] at *; assumption)))))
  have h3 : i = c.ga.length := by omega
  subst h3
  clear hi
  rw [List.take_length]
  obtain ⟨c2, hc2⟩ : ∃ c2 : Cr, c2 = ⟨c.nlT, c.ty, c.tlT, decide ((c.ho.eraseIdx k).length = 0), c.ho.eraseIdx k, .tok t, decide ((c.ga.eraseIdx g).length = 0), c.ga.eraseIdx g, .tok u⟩ := ⟨_, rfl⟩
  have hst : (AV.st c2.cs) = .st [.sl c.nlT c.ty.length (prs c.ty) c.tlT, gl ((c.ho.eraseIdx k).flatMap Hd.cs) (c.ho.eraseIdx k).length (.tok t), gl (trs (c.ga.eraseIdx g)) (c.ga.eraseIdx g).length (.tok u)] := by
    rw [hc2]; rfl
  have lh2 : c2.ho.length ≤ 6 := by rw [hc2]; exact Nat.le_trans (List.length_eraseIdx_le _ _) b6
  have lg2 : c2.ga.length ≤ 16 := by rw [hc2]; exact Nat.le_trans (List.length_eraseIdx_le _ _) b16
  have t2 : c2.ty = c.ty := by rw [hc2]
  obtain ⟨v2, hsub⟩ := sub_ok hv t2 lh2 lg2 (shf k) (shf g) (fun i hi => by rw [hc2] at hi ⊢; exact erase_get hi) (fun i hi => by rw [hc2] at hi ⊢; exact erase_get hi)
  simp only [Cr.cs, F_law_DatingLess, g_law_DatingLess, go_sem, reduceIte, Nat.reduceEqDiff, Nat.reduceAdd, Nat.reduceMul, Nat.reduceSub, reduceCtorEq, Nat.reduceLeDiff, Nat.reduceLT, Int.reduceLT, Int.reduceLE, Int.reduceToNat, Int.reduceAdd, Int.reduceSub, Int.reduceNeg, Int.reduceMul, Int.reduceEq, ← Bool.decide_and, ← Bool.decide_or, ↓tq_n, ↓tq_e, ↓tq_r, ↓bq_n, ↓bq_e, ↓bq_r, ↓rq_n, ↓rq_r, ↓rq_e]
  refine CallG.mk (r_dating_Dates c _) ?_
  by_cases ho : Ok c
  case neg =>
    obtain ⟨m1, w1, m2, w2, e1⟩ := datesV_eq c2
    unfold datesV
    simp only [hv, ho, if_true, if_false]
    simp only [F_law_DatingLess, g_law_DatingLess, go_sem, reduceIte, Nat.reduceEqDiff, Nat.reduceAdd, Nat.reduceMul, Nat.reduceSub, reduceCtorEq, Nat.reduceLeDiff, Nat.reduceLT, Int.reduceLT, Int.reduceLE, Int.reduceToNat, Int.reduceAdd, Int.reduceSub, Int.reduceNeg, Int.reduceMul, Int.reduceEq, ← Bool.decide_and, ← Bool.decide_or, ↓tq_n, ↓tq_e, ↓tq_r, ↓bq_n, ↓bq_e, ↓bq_r, ↓rq_n, ↓rq_r, ↓rq_e]
    refine CallG.mk (by rw [← hst]; exact r_dating_Dates c2 _) ?_
    rw [e1]
    simp only [F_law_DatingLess, g_law_DatingLess, go_sem, reduceIte, Nat.reduceEqDiff, Nat.reduceAdd, Nat.reduceMul, Nat.reduceSub, reduceCtorEq, Nat.reduceLeDiff, Nat.reduceLT, Int.reduceLT, Int.reduceLE, Int.reduceToNat, Int.reduceAdd, Int.reduceSub, Int.reduceNeg, Int.reduceMul, Int.reduceEq, ← Bool.decide_and, ← Bool.decide_or, ↓tq_n, ↓tq_e, ↓tq_r, ↓bq_n, ↓bq_e, ↓bq_r, ↓rq_n, ↓rq_r, ↓rq_e]
    exact ret_hb (AH.le_put (AH.le_setTok (.refl _) hu0) hb5) rfl
  obtain ⟨ho2, hle⟩ := hsub ho
  have zl := zT_len c
  have zl2 := zT_len c2
  rw [t2] at zl2
  unfold datesV
  simp only [hv, ho, if_true]
  simp only [F_law_DatingLess, g_law_DatingLess, go_sem, reduceIte, Nat.reduceEqDiff, Nat.reduceAdd, Nat.reduceMul, Nat.reduceSub, reduceCtorEq, Nat.reduceLeDiff, Nat.reduceLT, Int.reduceLT, Int.reduceLE, Int.reduceToNat, Int.reduceAdd, Int.reduceSub, Int.reduceNeg, Int.reduceMul, Int.reduceEq, ← Bool.decide_and, ← Bool.decide_or, ↓tq_n, ↓tq_e, ↓tq_r, ↓bq_n, ↓bq_e, ↓bq_r, ↓rq_n, ↓rq_r, ↓rq_e]
  refine CallG.mk (by rw [← hst]; exact r_dating_Dates c2 _) ?_
  unfold datesV
  simp only [v2, ho2, if_true, t2]
  simp only [F_law_DatingLess, g_law_DatingLess, go_sem, reduceIte, Nat.reduceEqDiff, Nat.reduceAdd, Nat.reduceMul, Nat.reduceSub, reduceCtorEq, Nat.reduceLeDiff, Nat.reduceLT, Int.reduceLT, Int.reduceLE, Int.reduceToNat, Int.reduceAdd, Int.reduceSub, Int.reduceNeg, Int.reduceMul, Int.reduceEq, ← Bool.decide_and, ← Bool.decide_or, ↓tq_n, ↓tq_e, ↓tq_r, ↓bq_n, ↓bq_e, ↓bq_r, ↓rq_n, ↓rq_r, ↓rq_e]
  refine awp_loop (fun i : Nat => [(8, .sl (decide (c.ty.length + c.ho.length = 0)) c.ty.length (prs (zT c)) .unk), (11, .sl (decide (c.ty.length + c2.ho.length = 0)) c.ty.length (prs (zT c2)) .unk), (14, I i)]) (fun _ => h') (fun i => i ≤ c.ty.length) (fun i => c.ty.length - i) 0 (Nat.zero_le _) (GStep.forget (by repeat' first | exact EnvLe.nil _ | refine EnvLe.cons (AV.le.of_eq rfl) ?_ | refine EnvLe.cons (AV.le.undef _) ?_ | refine EnvLe.cons AV.le.unk ?_) (AH.le_put (AH.le_setTok (.refl _) hu0) hb5)) fun i hi => .of_vg hm ?_
  by_cases h3 : i < c.ty.length
  · have hc3 : (i : Int) < (c.ty.length : Int) := by omega
    have d1 := prs_drop (e := zT c) (i := i) (by omega)
    have d2 := prs_drop (e := zT c2) (i := i) (by omega)
    rw [zT_at _ h3] at d1
    rw [zT_at _ (by rw [t2]; exact h3)] at d2
    have hb := hle i h3
    have c1 : ¬ (loc c false).getD i 0 < (loc c2 false).getD i 0 := by have : (loc c2 false).getD i 0 ≤ (loc c false).getD i 0 := hb.1; omega
    have c2' : ¬ (loc c2 true).getD i 0 < (loc c true).getD i 0 := by have : (loc c true).getD i 0 ≤ (loc c2 true).getD i 0 := hb.2; omega
    simp only [hc3, d1, d2, c1, c2', F_law_DatingLess, g_law_DatingLess, go_sem, reduceIte, Nat.reduceEqDiff, Nat.reduceAdd, Nat.reduceMul, Nat.reduceSub, reduceCtorEq, Nat.reduceLeDiff, Nat.reduceLT, Int.reduceLT, Int.reduceLE, Int.reduceToNat, Int.reduceAdd, Int.reduceSub, Int.reduceNeg, Int.reduceMul, Int.reduceEq, ← Bool.decide_and, ← Bool.decide_or, ↓tq_n, ↓tq_e, ↓tq_r, ↓bq_n, ↓bq_e, ↓bq_r, ↓rq_n, ↓rq_r, ↓rq_e]
    exact ⟨by rw [inR64]; omega, i + 1, by omega, by omega, (GStep.forget (by repeat' first | exact EnvLe.nil _ | refine EnvLe.cons (AV.le.of_eq rfl) ?_ | refine EnvLe.cons (AV.le.undef _) ?_ | refine EnvLe.cons AV.le.unk ?_) (by repeat' first | exact AH.le.refl _ | assumption | (refine AH.le_put ?_ (by first | assumption | exact (AH.blk_put_ne _ _ (by assumption)).trans (by assumption) | exact AH.none_put (by assumption) | exact AH.none_put (AH.none_put (by assumption)) | (simp only [AH.blk_setTok, AH.tok_put] at *; first | assumption | exact AH.none_put (by assumption)))) | (refine AH.le_setTok ?_ (by first | assumption | exact (AH.blk_put_ne _ _ (by assumption)).trans (by assumption) | exact AH.none_put (by assumption) | exact AH.none_put (AH.none_put (by assumption)) | (simp only [AH.blk_setTok, AH.tok_put] at *; first | assumption | exact AH.none_put (by assumption)))) | (refine AH.le_putM ?_ (by first | assumption | exact (AH.mp_putM_ne _ _ (by assumption)).trans (by assumption) | (simp only [AH.mp_put, AH.mp_setTok] at *; assumption)))))⟩
  have h3 : i = c.ty.length := by omega
  subst h3
  simp only [F_law_DatingLess, g_law_DatingLess, go_sem, reduceIte, Nat.reduceEqDiff, Nat.reduceAdd, Nat.reduceMul, Nat.reduceSub, reduceCtorEq, Nat.reduceLeDiff, Nat.reduceLT, Int.reduceLT, Int.reduceLE, Int.reduceToNat, Int.reduceAdd, Int.reduceSub, Int.reduceNeg, Int.reduceMul, Int.reduceEq, ← Bool.decide_and, ← Bool.decide_or, ↓tq_n, ↓tq_e, ↓tq_r, ↓bq_n, ↓bq_e, ↓bq_r, ↓rq_n, ↓rq_r, ↓rq_e]
  exact ret_ok rfl
end Go.Proofs.Ytcicklmlbdfneaa
