/- Calls of functions of this seat's program: the pieces that are to blame. No condition. -/
import Derived.Test.YtidmekdkfiljjaaGreatK31
import Derived.Test.YtidmekdkfiljjaaGreatK25
import Derived.Test.YtidmekdkfiljjaaGreatK24
import Derived.Test.YtidmekdkfiljjaaGreatK22
import Derived.Shelf.SlSortCmp.NoneTotal
import Derived.Test.YtidmekdkfiljjaaGreatProg
import Derived.Shelf.SlSortCmp.QuietGrown
import Derived.Lib.Small
import Derived.Lib.Walk
import Derived.StillTailTactics
import Derived.LoopTactic
import Derived.LoopN
namespace Go.Proofs.YtidmekdkfiljjaaGreat
open Go Go.Abs
set_option linter.unusedSimpArgs false
set_option linter.unusedVariables false
set_option maxRecDepth 20000

theorem r_contradiction_whole (nl : Bool) (a : List (Int × Int)) (tl : Tail) (ha : a.length ≤ 1000) (h : AH) : RCall Tryz.prog n_contradiction_whole [.sl nl a.length (prs a) tl] h (gl (i64s (nats (List.range a.length))) a.length .unk) := by
  refine RCall.of hm cF_contradiction_whole (by simp [g_contradiction_whole]) fun hw h' hl => ?_
  simp only [F_contradiction_whole, g_contradiction_whole, go_sem, ↓tq_n, ↓tq_e, ↓tq_r, ↓bq_n, ↓bq_e, ↓bq_r, ↓rq_n, ↓rq_r, ↓rq_e]
  refine awp_tok 3 1 (nl := true) (n := 0) (cs := []) rfl fun t ht => ?_
  refine awp_loop (fun i : Nat => [(3, gl (i64s (nats (List.range i))) i (.tok t)), (6, I a.length), (7, I i)]) (fun i => h'.setTok t i 1) (fun i => i ≤ a.length) (fun i => a.length - i) 0 (Nat.zero_le _) (GStep.forget (by repeat' first | exact EnvLe.nil _ | refine EnvLe.cons (AV.le.of_eq rfl) ?_ | refine EnvLe.cons (AV.le.undef _) ?_ | refine EnvLe.cons AV.le.unk ?_) (by repeat' first | exact AH.le.refl _ | assumption | (refine AH.le_put ?_ (by first | assumption | exact (AH.blk_put_ne _ _ (by assumption)).trans (by assumption) | exact AH.none_put (by assumption) | exact AH.none_put (AH.none_put (by assumption)) | (simp only [AH.blk_setTok, AH.tok_put] at *; first | assumption | exact AH.none_put (by assumption)))) | (refine AH.le_setTok ?_ (by first | assumption | exact (AH.blk_put_ne _ _ (by assumption)).trans (by assumption) | exact AH.none_put (by assumption) | exact AH.none_put (AH.none_put (by assumption)) | (simp only [AH.blk_setTok, AH.tok_put] at *; first | assumption | exact AH.none_put (by assumption)))) | (refine AH.le_putM ?_ (by first | assumption | exact (AH.mp_putM_ne _ _ (by assumption)).trans (by assumption) | (simp only [AH.mp_put, AH.mp_setTok] at *; assumption))))) fun i hi => .of_vg hm ?_
  by_cases h3 : i < a.length
  · have hc3 : (i : Int) < (a.length : Int) := by omega
    simp only [hc3, F_contradiction_whole, g_contradiction_whole, go_sem, ↓tq_n, ↓tq_e, ↓tq_r, ↓bq_n, ↓bq_e, ↓bq_r, ↓rq_n, ↓rq_r, ↓rq_e]
    refine ⟨by rw [i64s_len, allI_len], by omega, by omega, by rw [inR64]; omega, i + 1, by omega, by omega, ?_⟩
    rw [nats_succ, i64s_append]
    exact (GStep.forget (by repeat' first | exact EnvLe.nil _ | refine EnvLe.cons (AV.le.of_eq rfl) ?_ | refine EnvLe.cons (AV.le.undef _) ?_ | refine EnvLe.cons AV.le.unk ?_) (by repeat' first | exact AH.le.refl _ | assumption | (refine AH.le_put ?_ (by first | assumption | exact (AH.blk_put_ne _ _ (by assumption)).trans (by assumption) | exact AH.none_put (by assumption) | exact AH.none_put (AH.none_put (by assumption)) | (simp only [AH.blk_setTok, AH.tok_put] at *; first | assumption | exact AH.none_put (by assumption)))) | (refine AH.le_setTok ?_ (by first | assumption | exact (AH.blk_put_ne _ _ (by assumption)).trans (by assumption) | exact AH.none_put (by assumption) | exact AH.none_put (AH.none_put (by assumption)) | (simp only [AH.blk_setTok, AH.tok_put] at *; first | assumption | exact AH.none_put (by assumption)))) | (refine AH.le_putM ?_ (by first | assumption | exact (AH.mp_putM_ne _ _ (by assumption)).trans (by assumption) | (simp only [AH.mp_put, AH.mp_setTok] at *; assumption)))))
  · have h3 : i = a.length := by omega
    subst h3
    simp only [F_contradiction_whole, g_contradiction_whole, go_sem, ↓tq_n, ↓tq_e, ↓tq_r, ↓bq_n, ↓bq_e, ↓bq_r, ↓rq_n, ↓rq_r, ↓rq_e]
    exact ret_gl (by repeat' first | exact AH.le.refl _ | assumption | (refine AH.le_put ?_ (by first | assumption | exact (AH.blk_put_ne _ _ (by assumption)).trans (by assumption) | exact AH.none_put (by assumption) | exact AH.none_put (AH.none_put (by assumption)) | (simp only [AH.blk_setTok, AH.tok_put] at *; first | assumption | exact AH.none_put (by assumption)))) | (refine AH.le_setTok ?_ (by first | assumption | exact (AH.blk_put_ne _ _ (by assumption)).trans (by assumption) | exact AH.none_put (by assumption) | exact AH.none_put (AH.none_put (by assumption)) | (simp only [AH.blk_setTok, AH.tok_put] at *; first | assumption | exact AH.none_put (by assumption)))) | (refine AH.le_putM ?_ (by first | assumption | exact (AH.mp_putM_ne _ _ (by assumption)).trans (by assumption) | (simp only [AH.mp_put, AH.mp_setTok] at *; assumption))))
/-- The pieces whose ends reach each other. -/
def bmP (n : Nat) (a : List (Int × Int)) (k : Nat) : Bool := bt (wr n (nxt n a a.length) n) (tt a k) (fr a k)
def bmF (n : Nat) (a : List (Int × Int)) (i : Nat) : List Nat := (List.range i).filter (bmP n a)
theorem bmF_succ (n : Nat) (a : List (Int × Int)) (i : Nat) : bmF n a (i + 1) = if bmP n a i = true then bmF n a i ++ [i] else bmF n a i := by
  unfold bmF
  rw [List.range_succ, List.filter_append]
  by_cases h : bmP n a i = true
  · rw [if_pos h]; simp [h]
  · rw [if_neg h]; simp [h]
theorem bmF_len (n : Nat) (a : List (Int × Int)) (i : Nat) : (bmF n a i).length ≤ i := by
  have := List.length_filter_le (bmP n a) (List.range i)
  rw [List.length_range] at this
  exact this
set_option maxHeartbeats 4000000 in
theorem r_contradiction_Blame (m : Nat) (n1 : Bool) (a : List (Int × Int)) (u1 : Tail) (he : Ev m a) (h : AH) : RCall Tryz.prog n_contradiction_Blame [I m, .sl n1 a.length (prs a) u1] h (.tup [gl (i64s (nats (bmF m a a.length))) (nats (bmF m a a.length)).length .unk, I 0]) := by
  refine RCall.of hm cF_contradiction_Blame (by simp [g_contradiction_Blame]) fun hw h' hl => ?_
  simp only [F_contradiction_Blame, g_contradiction_Blame, go_sem, ↓tq_n, ↓tq_e, ↓tq_r, ↓bq_n, ↓bq_e, ↓bq_r, ↓rq_n, ↓rq_r, ↓rq_e]
  refine CallG.mk (r_contradiction_Valid m n1 a u1 _) ?_
  rw [decide_eq_true he]
  have ha := he.2.2.1
  have hn : m ≤ 24 := by have := he.2.1; omega
  simp only [F_contradiction_Blame, g_contradiction_Blame, go_sem, ↓tq_n, ↓tq_e, ↓tq_r, ↓bq_n, ↓bq_e, ↓bq_r, ↓rq_n, ↓rq_r, ↓rq_e]
  refine CallG.mk (r_contradiction_whole n1 a u1 (by omega) _) ?_
  simp only [F_contradiction_Blame, g_contradiction_Blame, go_sem, ↓tq_n, ↓tq_e, ↓tq_r, ↓bq_n, ↓bq_e, ↓bq_r, ↓rq_n, ↓rq_r, ↓rq_e]
  have hwl : (nats (List.range a.length)).length = a.length := by rw [nats_len, List.length_range]
  have hre := s_contradiction_reach m n1 a u1 he (decide (a.length = 0)) (nats (List.range a.length)) .unk (all_ix a.length) h'
  rw [hwl] at hre
  refine CallS.mk hre fun r h'' hr => ?_
  obtain ⟨b, hb, rfl, rfl⟩ := hr
  have hsm := wr_sm (n := m) (nxt_sm hn (a := sub a (nats (List.range a.length))) (fun k hk => ((sub_arc he (all_ix a.length)) k hk).2.2.2) a.length (by rw [sub_len, hwl]; exact Nat.le_refl _)) m
  rw [sub_all] at hsm ⊢
  have hln : (wr m (nxt m a a.length) m).length = m := by rw [wr_len, nxt_len]
  have hbt : ∀ k, bmP m a k = bt (wr m (nxt m a a.length) m) (tt a k) (fr a k) := fun k => rfl
  generalize wr m (nxt m a a.length) m = o at hsm hln hbt ⊢
  simp only [F_contradiction_Blame, g_contradiction_Blame, go_sem, ↓tq_n, ↓tq_e, ↓tq_r, ↓bq_n, ↓bq_e, ↓bq_r, ↓rq_n, ↓rq_r, ↓rq_e]
  refine awp_tok 7 1 (nl := true) (n := 0) (cs := []) rfl fun t ht => ?_
  refine awp_loop (fun i : Nat => [(1, .sl n1 a.length (prs a) u1), (6, .msl b 0 m (some m)), (7, gl (i64s (nats (bmF m a i))) (nats (bmF m a i)).length (.tok t)), (19, .sl n1 a.length (prs a) u1), (20, I a.length), (21, I i)]) (fun i => (h'.put b (u32s o)).setTok t (nats (bmF m a i)).length 1) (fun i => i ≤ a.length) (fun i => a.length - i) 0 (Nat.zero_le _) (GStep.forget (by repeat' first | exact EnvLe.nil _ | refine EnvLe.cons (AV.le.of_eq rfl) ?_ | refine EnvLe.cons (AV.le.undef _) ?_ | refine EnvLe.cons AV.le.unk ?_) (by repeat' first | exact AH.le.refl _ | assumption | (refine AH.le_put ?_ (by first | assumption | exact (AH.blk_put_ne _ _ (by assumption)).trans (by assumption) | exact AH.none_put (by assumption) | exact AH.none_put (AH.none_put (by assumption)) | (simp only [AH.blk_setTok, AH.tok_put] at *; first | assumption | exact AH.none_put (by assumption)))) | (refine AH.le_setTok ?_ (by first | assumption | exact (AH.blk_put_ne _ _ (by assumption)).trans (by assumption) | exact AH.none_put (by assumption) | exact AH.none_put (AH.none_put (by assumption)) | (simp only [AH.blk_setTok, AH.tok_put] at *; first | assumption | exact AH.none_put (by assumption)))) | (refine AH.le_putM ?_ (by first | assumption | exact (AH.mp_putM_ne _ _ (by assumption)).trans (by assumption) | (simp only [AH.mp_put, AH.mp_setTok] at *; assumption))))) fun i hi => .of_vg hm ?_
  have hbl := bmF_len m a i
  have hnl := nats_len (bmF m a i)
  by_cases h8 : i < a.length
  · have hcj : (i : Int) < (a.length : Int) := by omega
    obtain ⟨e1, e2, e3, e4⟩ := ev_k he h8
    have hsucc := bmF_succ m a i
    have f1 : tt a i < o.length := by omega
    have e0 := bitu32_at (hsm (tt a i)) (show fr a i ≤ 32 by omega)
    have hb2 := hbt i
    unfold bt at hb2
    have hti : (tt a i : Int) < (m : Int) := by omega
    have hti0 : (0 : Int) ≤ (tt a i : Int) := by omega
    have hfi0 : (0 : Int) ≤ (fr a i : Int) := by omega
    cases c1 : bmP m a i with
    | true =>
      rw [if_pos c1] at hsucc
      rw [c1] at hb2
      simp only [hcj, prs_drop h8, e1, u32s_drop f1, e0, ← hb2, hti, hti0, hfi0, F_contradiction_Blame, g_contradiction_Blame, go_sem, ↓tq_n, ↓tq_e, ↓tq_r, ↓bq_n, ↓bq_e, ↓bq_r, ↓rq_n, ↓rq_r, ↓rq_e]
      refine ⟨by rw [i64s_len], by omega, by omega, by rw [inR64]; omega, i + 1, by omega, by omega, ?_⟩
      rw [hsucc, nats_append, i64s_append, List.length_append]
      exact (GStep.forget (by repeat' first | exact EnvLe.nil _ | refine EnvLe.cons (AV.le.of_eq rfl) ?_ | refine EnvLe.cons (AV.le.undef _) ?_ | refine EnvLe.cons AV.le.unk ?_) (by repeat' first | exact AH.le.refl _ | assumption | (refine AH.le_put ?_ (by first | assumption | exact (AH.blk_put_ne _ _ (by assumption)).trans (by assumption) | exact AH.none_put (by assumption) | exact AH.none_put (AH.none_put (by assumption)) | (simp only [AH.blk_setTok, AH.tok_put] at *; first | assumption | exact AH.none_put (by assumption)))) | (refine AH.le_setTok ?_ (by first | assumption | exact (AH.blk_put_ne _ _ (by assumption)).trans (by assumption) | exact AH.none_put (by assumption) | exact AH.none_put (AH.none_put (by assumption)) | (simp only [AH.blk_setTok, AH.tok_put] at *; first | assumption | exact AH.none_put (by assumption)))) | (refine AH.le_putM ?_ (by first | assumption | exact (AH.mp_putM_ne _ _ (by assumption)).trans (by assumption) | (simp only [AH.mp_put, AH.mp_setTok] at *; assumption)))))
    | false =>
      rw [if_neg (by rw [c1]; decide)] at hsucc
      rw [c1] at hb2
      simp only [hcj, prs_drop h8, e1, u32s_drop f1, e0, ← hb2, hti, hti0, hfi0, F_contradiction_Blame, g_contradiction_Blame, go_sem, ↓tq_n, ↓tq_e, ↓tq_r, ↓bq_n, ↓bq_e, ↓bq_r, ↓rq_n, ↓rq_r, ↓rq_e]
      refine ⟨by rw [inR64]; omega, i + 1, by omega, by omega, ?_⟩
      rw [hsucc]
      exact (GStep.forget (by repeat' first | exact EnvLe.nil _ | refine EnvLe.cons (AV.le.of_eq rfl) ?_ | refine EnvLe.cons (AV.le.undef _) ?_ | refine EnvLe.cons AV.le.unk ?_) (by repeat' first | exact AH.le.refl _ | assumption | (refine AH.le_put ?_ (by first | assumption | exact (AH.blk_put_ne _ _ (by assumption)).trans (by assumption) | exact AH.none_put (by assumption) | exact AH.none_put (AH.none_put (by assumption)) | (simp only [AH.blk_setTok, AH.tok_put] at *; first | assumption | exact AH.none_put (by assumption)))) | (refine AH.le_setTok ?_ (by first | assumption | exact (AH.blk_put_ne _ _ (by assumption)).trans (by assumption) | exact AH.none_put (by assumption) | exact AH.none_put (AH.none_put (by assumption)) | (simp only [AH.blk_setTok, AH.tok_put] at *; first | assumption | exact AH.none_put (by assumption)))) | (refine AH.le_putM ?_ (by first | assumption | exact (AH.mp_putM_ne _ _ (by assumption)).trans (by assumption) | (simp only [AH.mp_put, AH.mp_setTok] at *; assumption)))))
  have h8 : i = a.length := by omega
  subst h8
  simp only [F_contradiction_Blame, g_contradiction_Blame, go_sem, ↓tq_n, ↓tq_e, ↓tq_r, ↓bq_n, ↓bq_e, ↓bq_r, ↓rq_n, ↓rq_r, ↓rq_e]
  refine ret_le (by repeat' first | exact AH.le.refl _ | assumption | (refine AH.le_put ?_ (by first | assumption | exact (AH.blk_put_ne _ _ (by assumption)).trans (by assumption) | exact AH.none_put (by assumption) | exact AH.none_put (AH.none_put (by assumption)) | (simp only [AH.blk_setTok, AH.tok_put] at *; first | assumption | exact AH.none_put (by assumption)))) | (refine AH.le_setTok ?_ (by first | assumption | exact (AH.blk_put_ne _ _ (by assumption)).trans (by assumption) | exact AH.none_put (by assumption) | exact AH.none_put (AH.none_put (by assumption)) | (simp only [AH.blk_setTok, AH.tok_put] at *; first | assumption | exact AH.none_put (by assumption)))) | (refine AH.le_putM ?_ (by first | assumption | exact (AH.mp_putM_ne _ _ (by assumption)).trans (by assumption) | (simp only [AH.mp_put, AH.mp_setTok] at *; assumption)))) ?_
  exact .tup2 .glU (.refl _)
end Go.Proofs.YtidmekdkfiljjaaGreat
namespace Go.Proofs.YtidmekdkfiljjaaGreat.P
open Go Go.Abs
set_option linter.unusedSimpArgs false
set_option linter.unusedVariables false
set_option maxRecDepth 20000

/-- Before by a side. -/
def bfS (s t : Spm) (of_ : Int) : Bool := if of_ = 0 then decide (s.obv = t.obv) && decide (s.os < t.os) else decide (s.rev = t.rev) && decide (s.rs < t.rs)
theorem r_wear_side (s : Spm) (of_ : Int) (h : AH) : RCall Tryz.prog n_wear_side [stS s, I of_] h (if of_ = 0 then .tup [I s.obv, I s.os] else .tup [I s.rev, I s.rs]) := by
  refine RCall.of hm cF_wear_side (by simp [g_wear_side]) fun hw h' hl => ?_
  by_cases c : of_ = 0
  · simp only [stS, Spm.cs, decide_eq_true c, F_wear_side, g_wear_side, go_sem, ↓tq_n, ↓tq_e, ↓tq_r, ↓bq_n, ↓bq_e, ↓bq_r, ↓rq_n, ↓rq_r, ↓rq_e]
    exact ret_ok (by rw [if_pos c])
  · simp only [stS, Spm.cs, c, F_wear_side, g_wear_side, go_sem, ↓tq_n, ↓tq_e, ↓tq_r, ↓bq_n, ↓bq_e, ↓bq_r, ↓rq_n, ↓rq_r, ↓rq_e]
    exact ret_ok rfl
theorem r_wear_before (s t : Spm) (of_ : Int) (h : AH) : RCall Tryz.prog n_wear_before [stS s, stS t, I of_] h (.bool (bfS s t of_)) := by
  refine RCall.of hm cF_wear_before (by simp [g_wear_before]) fun hw h' hl => ?_
  simp only [stS, Spm.cs, F_wear_before, g_wear_before, go_sem, ↓tq_n, ↓tq_e, ↓tq_r, ↓bq_n, ↓bq_e, ↓bq_r, ↓rq_n, ↓rq_r, ↓rq_e]
  refine CallG.mk (r_wear_side s of_ _) ?_
  by_cases c : of_ = 0
  · rw [if_pos c]
    simp only [stS, Spm.cs, F_wear_before, g_wear_before, go_sem, ↓tq_n, ↓tq_e, ↓tq_r, ↓bq_n, ↓bq_e, ↓bq_r, ↓rq_n, ↓rq_r, ↓rq_e]
    refine CallG.mk (r_wear_side t of_ _) ?_
    rw [if_pos c]
    by_cases c1 : s.obv = t.obv
    · simp only [decide_eq_true c1, F_wear_before, g_wear_before, go_sem, ↓tq_n, ↓tq_e, ↓tq_r, ↓bq_n, ↓bq_e, ↓bq_r, ↓rq_n, ↓rq_r, ↓rq_e]
      exact ret_ok (by simp [bfS, c, c1])
    · simp only [c1, F_wear_before, g_wear_before, go_sem, ↓tq_n, ↓tq_e, ↓tq_r, ↓bq_n, ↓bq_e, ↓bq_r, ↓rq_n, ↓rq_r, ↓rq_e]
      exact ret_ok (by simp [bfS, c, c1])
  · rw [if_neg c]
    simp only [stS, Spm.cs, F_wear_before, g_wear_before, go_sem, ↓tq_n, ↓tq_e, ↓tq_r, ↓bq_n, ↓bq_e, ↓bq_r, ↓rq_n, ↓rq_r, ↓rq_e]
    refine CallG.mk (r_wear_side t of_ _) ?_
    rw [if_neg c]
    by_cases c1 : s.rev = t.rev
    · simp only [decide_eq_true c1, F_wear_before, g_wear_before, go_sem, ↓tq_n, ↓tq_e, ↓tq_r, ↓bq_n, ↓bq_e, ↓bq_r, ↓rq_n, ↓rq_r, ↓rq_e]
      exact ret_ok (by simp [bfS, c, c1])
    · simp only [c1, F_wear_before, g_wear_before, go_sem, ↓tq_n, ↓tq_e, ↓tq_r, ↓bq_n, ↓bq_e, ↓bq_r, ↓rq_n, ↓rq_r, ↓rq_e]
      exact ret_ok (by simp [bfS, c, c1])
theorem r_wear_Before_1 (s t : Spm) (of_ : Int) (h : AH) : RCall Tryz.prog n_wear_Before_1 [stS s, stS t, .sptr [I of_]] h (.bool (bfS s t of_)) := by
  refine RCall.of hm cF_wear_Before_1 (by simp [g_wear_Before_1]) fun hw h' hl => ?_
  simp only [stS, Spm.cs, F_wear_Before_1, g_wear_Before_1, go_sem, ↓tq_n, ↓tq_e, ↓tq_r, ↓bq_n, ↓bq_e, ↓bq_r, ↓rq_n, ↓rq_r, ↓rq_e]
  refine CallG.mk (r_wear_before s t of_ _) ?_
  simp only [F_wear_Before_1, g_wear_Before_1, go_sem, ↓tq_n, ↓tq_e, ↓tq_r, ↓bq_n, ↓bq_e, ↓bq_r, ↓rq_n, ↓rq_r, ↓rq_e]
  exact ret_ok rfl
/-! Pairs of places of which something holds. -/
def rwK (p : Nat → Bool) (i k : Nat) : List (Int × Int) := ((List.range k).filter p).map fun (j : Nat) => ((i : Int), (j : Int))
theorem rwK_succ (p : Nat → Bool) (i k : Nat) : rwK p i (k + 1) = if p k = true then rwK p i k ++ [((i : Int), (k : Int))] else rwK p i k := by
  unfold rwK
  rw [List.range_succ, List.filter_append, List.map_append]
  by_cases h : p k = true
  · rw [if_pos h]; simp [h]
  · rw [if_neg h]; simp [h]
theorem rwK_len (p : Nat → Bool) (i k : Nat) : (rwK p i k).length ≤ k := by
  unfold rwK
  have := List.length_filter_le p (List.range k)
  rw [List.length_map]
  rwa [List.length_range] at this
def tbK (q : Nat → Nat → Bool) (m i : Nat) : List (Int × Int) := (List.range i).flatMap fun i => rwK (q i) i m
theorem tbK_succ (q : Nat → Nat → Bool) (m i : Nat) : tbK q m (i + 1) = tbK q m i ++ rwK (q i) i m := by simp [tbK, List.range_succ]
theorem tbK_len (q : Nat → Nat → Bool) (m : Nat) : ∀ i, (tbK q m i).length ≤ i * m := by
  intro i
  induction i with
  | zero => simp [tbK]
  | succ i ih =>
    rw [tbK_succ, List.length_append, Nat.add_mul, Nat.one_mul]
    have := rwK_len (q i) i m
    omega
theorem prs_snoc2 (A R : List (Int × Int)) (x : Int × Int) : prs (A ++ (R ++ [x])) = prs (A ++ R) ++ [I x.1, I x.2] ∧ (A ++ (R ++ [x])).length = (A ++ R).length + 1 := by
  refine ⟨?_, by simp; omega⟩
  rw [← List.append_assoc, prs_append (A ++ R)]
  rfl
theorem r_wear_arcs (f : FuncId) (caps : List AV) (q : Nat → Nat → Bool) (nl : Bool) (l : List Spm) (tl : Tail) (hl64 : l.length ≤ 64) (h : AH) (hf : ∀ i k, i < l.length → k < l.length → ∀ g, RCall Tryz.prog f ([stS (l.getD i dS), stS (l.getD k dS)] ++ caps) g (.bool (q i k))) :
    RCall Tryz.prog n_wear_arcs [.sl nl l.length (sms l) tl, .fn f caps] h (gl (prs (tbK q l.length l.length)) (tbK q l.length l.length).length .unk) := by
  refine RCall.of hm cF_wear_arcs (by simp [g_wear_arcs]) fun hw h' hl => ?_
  simp only [F_wear_arcs, g_wear_arcs, go_sem, ↓tq_n, ↓tq_e, ↓tq_r, ↓bq_n, ↓bq_e, ↓bq_r, ↓rq_n, ↓rq_r, ↓rq_e]
  refine awp_tok 5 2 (nl := true) (n := 0) (cs := []) rfl fun t ht => ?_
  refine awp_loop (fun i : Nat => [(0, .sl nl l.length (sms l) tl), (1, .fn f caps), (5, gl (prs (tbK q l.length i)) (tbK q l.length i).length (.tok t)), (10, .sl nl l.length (sms l) tl), (11, I l.length), (12, I i)]) (fun i => h'.setTok t (tbK q l.length i).length 2) (fun i => i ≤ l.length) (fun i => l.length - i) 0 (Nat.zero_le _) (GStep.forget (by repeat' first | exact EnvLe.nil _ | refine EnvLe.cons (AV.le.of_eq rfl) ?_ | refine EnvLe.cons (AV.le.undef _) ?_ | refine EnvLe.cons AV.le.unk ?_) (by repeat' first | exact AH.le.refl _ | assumption | (refine AH.le_put ?_ (by first | assumption | exact (AH.blk_put_ne _ _ (by assumption)).trans (by assumption) | exact AH.none_put (by assumption) | exact AH.none_put (AH.none_put (by assumption)) | (simp only [AH.blk_setTok, AH.tok_put] at *; first | assumption | exact AH.none_put (by assumption)))) | (refine AH.le_setTok ?_ (by first | assumption | exact (AH.blk_put_ne _ _ (by assumption)).trans (by assumption) | exact AH.none_put (by assumption) | exact AH.none_put (AH.none_put (by assumption)) | (simp only [AH.blk_setTok, AH.tok_put] at *; first | assumption | exact AH.none_put (by assumption)))) | (refine AH.le_putM ?_ (by first | assumption | exact (AH.mp_putM_ne _ _ (by assumption)).trans (by assumption) | (simp only [AH.mp_put, AH.mp_setTok] at *; assumption))))) fun i hi => .of_vg hm ?_
  by_cases h3 : i < l.length
  case neg =>
    have h3 : i = l.length := by omega
    subst h3
    simp only [F_wear_arcs, g_wear_arcs, go_sem, ↓tq_n, ↓tq_e, ↓tq_r, ↓bq_n, ↓bq_e, ↓bq_r, ↓rq_n, ↓rq_r, ↓rq_e]
    exact ret_gl (by repeat' first | exact AH.le.refl _ | assumption | (refine AH.le_put ?_ (by first | assumption | exact (AH.blk_put_ne _ _ (by assumption)).trans (by assumption) | exact AH.none_put (by assumption) | exact AH.none_put (AH.none_put (by assumption)) | (simp only [AH.blk_setTok, AH.tok_put] at *; first | assumption | exact AH.none_put (by assumption)))) | (refine AH.le_setTok ?_ (by first | assumption | exact (AH.blk_put_ne _ _ (by assumption)).trans (by assumption) | exact AH.none_put (by assumption) | exact AH.none_put (AH.none_put (by assumption)) | (simp only [AH.blk_setTok, AH.tok_put] at *; first | assumption | exact AH.none_put (by assumption)))) | (refine AH.le_putM ?_ (by first | assumption | exact (AH.mp_putM_ne _ _ (by assumption)).trans (by assumption) | (simp only [AH.mp_put, AH.mp_setTok] at *; assumption))))
  have hc : (i : Int) < (l.length : Int) := by omega
  have hT := tbK_len q l.length i
  have hT2 : i * l.length ≤ 64 * 64 := Nat.mul_le_mul (by omega) hl64
  have hsucc := tbK_succ q l.length i
  have hcs : [I (l.getD i dS).id, I (l.getD i dS).obv, I (l.getD i dS).rev, I (l.getD i dS).os, I (l.getD i dS).rs, I (l.getD i dS).ax, I (l.getD i dS).wt] = (l.getD i dS).cs := rfl
  simp only [hc, sms_drop h3, F_wear_arcs, g_wear_arcs, go_sem, ↓tq_n, ↓tq_e, ↓tq_r, ↓bq_n, ↓bq_e, ↓bq_r, ↓rq_n, ↓rq_r, ↓rq_e]
  refine awp_loop (fun k : Nat => [(0, .sl nl l.length (sms l) tl), (1, .fn f caps), (5, gl (prs (tbK q l.length i ++ rwK (q i) i k)) (tbK q l.length i ++ rwK (q i) i k).length (.tok t)), (6, I i), (7, .sptr (l.getD i dS).cs), (10, .sl nl l.length (sms l) tl), (11, I l.length), (12, I i), (17, .sl nl l.length (sms l) tl), (18, I l.length), (19, I k)]) (fun k => h'.setTok t (tbK q l.length i ++ rwK (q i) i k).length 2) (fun k => k ≤ l.length) (fun k => l.length - k) 0 (Nat.zero_le _) (by rw [show rwK (q i) i 0 = [] from rfl, List.append_nil]; exact (GStep.forget (by repeat' first | exact EnvLe.nil _ | refine EnvLe.cons (AV.le.of_eq rfl) ?_ | refine EnvLe.cons (AV.le.undef _) ?_ | refine EnvLe.cons AV.le.unk ?_) (by repeat' first | exact AH.le.refl _ | assumption | (refine AH.le_put ?_ (by first | assumption | exact (AH.blk_put_ne _ _ (by assumption)).trans (by assumption) | exact AH.none_put (by assumption) | exact AH.none_put (AH.none_put (by assumption)) | (simp only [AH.blk_setTok, AH.tok_put] at *; first | assumption | exact AH.none_put (by assumption)))) | (refine AH.le_setTok ?_ (by first | assumption | exact (AH.blk_put_ne _ _ (by assumption)).trans (by assumption) | exact AH.none_put (by assumption) | exact AH.none_put (AH.none_put (by assumption)) | (simp only [AH.blk_setTok, AH.tok_put] at *; first | assumption | exact AH.none_put (by assumption)))) | (refine AH.le_putM ?_ (by first | assumption | exact (AH.mp_putM_ne _ _ (by assumption)).trans (by assumption) | (simp only [AH.mp_put, AH.mp_setTok] at *; assumption)))))) fun k hk => .of_vg hm ?_
  by_cases h4 : k < l.length
  · have hck : (k : Int) < (l.length : Int) := by omega
    have hR := rwK_len (q i) i k
    have hrs := rwK_succ (q i) i k
    simp only [hck, sms_drop h4, Spm.cs, F_wear_arcs, g_wear_arcs, go_sem, ↓tq_n, ↓tq_e, ↓tq_r, ↓bq_n, ↓bq_e, ↓bq_r, ↓rq_n, ↓rq_r, ↓rq_e]
    refine CallG.mk (hf i k h3 h4 _) ?_
    cases hq : q i k with
    | true =>
      rw [hq, if_pos rfl] at hrs
      simp only [F_wear_arcs, g_wear_arcs, go_sem, ↓tq_n, ↓tq_e, ↓tq_r, ↓bq_n, ↓bq_e, ↓bq_r, ↓rq_n, ↓rq_r, ↓rq_e]
      refine ⟨by rw [prs_len], by rw [List.length_append]; omega, by rw [List.length_append]; omega, by rw [inR64]; omega, k + 1, by omega, by omega, ?_⟩
      rw [hrs, (prs_snoc2 _ _ _).1, (prs_snoc2 _ _ _).2]
      exact (GStep.forget (by repeat' first | exact EnvLe.nil _ | refine EnvLe.cons (AV.le.of_eq rfl) ?_ | refine EnvLe.cons (AV.le.undef _) ?_ | refine EnvLe.cons AV.le.unk ?_) (by repeat' first | exact AH.le.refl _ | assumption | (refine AH.le_put ?_ (by first | assumption | exact (AH.blk_put_ne _ _ (by assumption)).trans (by assumption) | exact AH.none_put (by assumption) | exact AH.none_put (AH.none_put (by assumption)) | (simp only [AH.blk_setTok, AH.tok_put] at *; first | assumption | exact AH.none_put (by assumption)))) | (refine AH.le_setTok ?_ (by first | assumption | exact (AH.blk_put_ne _ _ (by assumption)).trans (by assumption) | exact AH.none_put (by assumption) | exact AH.none_put (AH.none_put (by assumption)) | (simp only [AH.blk_setTok, AH.tok_put] at *; first | assumption | exact AH.none_put (by assumption)))) | (refine AH.le_putM ?_ (by first | assumption | exact (AH.mp_putM_ne _ _ (by assumption)).trans (by assumption) | (simp only [AH.mp_put, AH.mp_setTok] at *; assumption)))))
    | false =>
      rw [hq, if_neg (by decide)] at hrs
      simp only [F_wear_arcs, g_wear_arcs, go_sem, ↓tq_n, ↓tq_e, ↓tq_r, ↓bq_n, ↓bq_e, ↓bq_r, ↓rq_n, ↓rq_r, ↓rq_e]
      refine ⟨by rw [inR64]; omega, k + 1, by omega, by omega, ?_⟩
      rw [hrs]
      exact (GStep.forget (by repeat' first | exact EnvLe.nil _ | refine EnvLe.cons (AV.le.of_eq rfl) ?_ | refine EnvLe.cons (AV.le.undef _) ?_ | refine EnvLe.cons AV.le.unk ?_) (by repeat' first | exact AH.le.refl _ | assumption | (refine AH.le_put ?_ (by first | assumption | exact (AH.blk_put_ne _ _ (by assumption)).trans (by assumption) | exact AH.none_put (by assumption) | exact AH.none_put (AH.none_put (by assumption)) | (simp only [AH.blk_setTok, AH.tok_put] at *; first | assumption | exact AH.none_put (by assumption)))) | (refine AH.le_setTok ?_ (by first | assumption | exact (AH.blk_put_ne _ _ (by assumption)).trans (by assumption) | exact AH.none_put (by assumption) | exact AH.none_put (AH.none_put (by assumption)) | (simp only [AH.blk_setTok, AH.tok_put] at *; first | assumption | exact AH.none_put (by assumption)))) | (refine AH.le_putM ?_ (by first | assumption | exact (AH.mp_putM_ne _ _ (by assumption)).trans (by assumption) | (simp only [AH.mp_put, AH.mp_setTok] at *; assumption)))))
  have h4 : k = l.length := by omega
  subst h4
  rw [← hsucc]
  simp only [F_wear_arcs, g_wear_arcs, go_sem, ↓tq_n, ↓tq_e, ↓tq_r, ↓bq_n, ↓bq_e, ↓bq_r, ↓rq_n, ↓rq_r, ↓rq_e]
  exact ⟨by rw [inR64]; omega, i + 1, by omega, by omega, (GStep.forget (by repeat' first | exact EnvLe.nil _ | refine EnvLe.cons (AV.le.of_eq rfl) ?_ | refine EnvLe.cons (AV.le.undef _) ?_ | refine EnvLe.cons AV.le.unk ?_) (by repeat' first | exact AH.le.refl _ | assumption | (refine AH.le_put ?_ (by first | assumption | exact (AH.blk_put_ne _ _ (by assumption)).trans (by assumption) | exact AH.none_put (by assumption) | exact AH.none_put (AH.none_put (by assumption)) | (simp only [AH.blk_setTok, AH.tok_put] at *; first | assumption | exact AH.none_put (by assumption)))) | (refine AH.le_setTok ?_ (by first | assumption | exact (AH.blk_put_ne _ _ (by assumption)).trans (by assumption) | exact AH.none_put (by assumption) | exact AH.none_put (AH.none_put (by assumption)) | (simp only [AH.blk_setTok, AH.tok_put] at *; first | assumption | exact AH.none_put (by assumption)))) | (refine AH.le_putM ?_ (by first | assumption | exact (AH.mp_putM_ne _ _ (by assumption)).trans (by assumption) | (simp only [AH.mp_put, AH.mp_setTok] at *; assumption)))))⟩
/-- What Before and Arcs return. -/
def arV (q : Spm → Spm → Bool) (l : List Spm) : AV := if ckE l = 0 then .tup [gl (prs (tbK (fun i k => q (l.getD i dS) (l.getD k dS)) l.length l.length)) (tbK (fun i k => q (l.getD i dS) (l.getD k dS)) l.length l.length).length .unk, I 0] else .tup [.sl true 0 [] .full, I (ckE l)]
theorem ck_64 {l : List Spm} (h : ckE l = 0) : l.length ≤ 64 := by
  unfold ckE at h
  split at h
  · cases h
  · omega
theorem r_wear_Before (nl : Bool) (l : List Spm) (tl : Tail) (of_ : Int) (ho : of_ = 0 ∨ of_ = 1) (h : AH) : RCall Tryz.prog n_wear_BeforeX [.sl nl l.length (sms l) tl, I of_] h (arV (fun s t => bfS s t of_) l) := by
  refine RCall.of hm cF_wear_BeforeX (by simp [g_wear_BeforeX]) fun hw h' hl => ?_
  simp only [F_wear_BeforeX, g_wear_BeforeX, go_sem, ↓tq_n, ↓tq_e, ↓tq_r, ↓bq_n, ↓bq_e, ↓bq_r, ↓rq_n, ↓rq_r, ↓rq_e]
  refine CallG.mk (r_specimen_Check nl l tl _) ?_
  by_cases c1 : ckE l = 0
  case neg =>
    simp only [c1, F_wear_BeforeX, g_wear_BeforeX, go_sem, ↓tq_n, ↓tq_e, ↓tq_r, ↓bq_n, ↓bq_e, ↓bq_r, ↓rq_n, ↓rq_r, ↓rq_e]
    exact ret_ok (by simp [arV, c1])
  have h64 := ck_64 c1
  rcases ho with rfl | rfl
  · simp only [c1, F_wear_BeforeX, g_wear_BeforeX, go_sem, ↓tq_n, ↓tq_e, ↓tq_r, ↓bq_n, ↓bq_e, ↓bq_r, ↓rq_n, ↓rq_r, ↓rq_e]
    refine CallG.mk (r_wear_arcs 65 [.sptr [I 0]] (fun i k => bfS (l.getD i dS) (l.getD k dS) 0) nl l tl h64 _ (fun i k _ _ g => r_wear_Before_1 _ _ 0 g)) ?_
    simp only [F_wear_BeforeX, g_wear_BeforeX, go_sem, ↓tq_n, ↓tq_e, ↓tq_r, ↓bq_n, ↓bq_e, ↓bq_r, ↓rq_n, ↓rq_r, ↓rq_e]
    exact ret_ok (by simp [arV, c1])
  · simp only [c1, F_wear_BeforeX, g_wear_BeforeX, go_sem, ↓tq_n, ↓tq_e, ↓tq_r, ↓bq_n, ↓bq_e, ↓bq_r, ↓rq_n, ↓rq_r, ↓rq_e]
    refine CallG.mk (r_wear_arcs 65 [.sptr [I 1]] (fun i k => bfS (l.getD i dS) (l.getD k dS) 1) nl l tl h64 _ (fun i k _ _ g => r_wear_Before_1 _ _ 1 g)) ?_
    simp only [F_wear_BeforeX, g_wear_BeforeX, go_sem, ↓tq_n, ↓tq_e, ↓tq_r, ↓bq_n, ↓bq_e, ↓bq_r, ↓rq_n, ↓rq_r, ↓rq_e]
    exact ret_ok (by simp [arV, c1])
end Go.Proofs.YtidmekdkfiljjaaGreat.P
namespace Go.Proofs.YtidmekdkfiljjaaGreat.P
open Go Go.Abs
set_option linter.unusedSimpArgs false
set_option linter.unusedVariables false
set_option maxRecDepth 20000

/-- The place of an Id. -/
def plc (l : List Spm) (x : Int) : Int := findI (fun i => decide ((l.getD i dS).id = x)) l.length
theorem findI_lt {p : Nat → Bool} : ∀ {n : Nat}, 0 ≤ findI p n → (findI p n).toNat < n ∧ p (findI p n).toNat = true ∧ ∀ j, j < (findI p n).toNat → p j = false := by
  intro n h0
  have h1 := findI_nonneg.1 h0
  obtain ⟨i, hi, hp⟩ := List.any_eq_true.1 h1
  have hi := List.mem_range.1 hi
  have key : ∀ m, (∃ f, f < m ∧ p f = true) → ∃ f, f < m ∧ p f = true ∧ ∀ j, j < f → p j = false := by
    intro m
    induction m with
    | zero => rintro ⟨f, h, _⟩; omega
    | succ m ih =>
      rintro ⟨f, hf, hpf⟩
      by_cases hex : ∃ f, f < m ∧ p f = true
      · obtain ⟨g, g1, g2, g3⟩ := ih hex
        exact ⟨g, by omega, g2, g3⟩
      · refine ⟨f, hf, hpf, fun j hj => ?_⟩
        cases hpj : p j with
        | false => rfl
        | true => exact absurd ⟨j, by omega, hpj⟩ hex
  obtain ⟨f, f1, f2, f3⟩ := key n ⟨i, hi, hp⟩
  rw [findI_at f2 f3 f1]
  exact ⟨by simpa using f1, by simpa using f2, by simpa using f3⟩
theorem r_precedence_place_1 (x : Int) (s : Spm) (h : AH) : RCall Tryz.prog n_precedence_place_1 [stS s, .sptr [I x]] h (.bool (decide (s.id = x))) := by
  refine RCall.of hm cF_precedence_place_1 (by simp [g_precedence_place_1]) fun hw h' hl => ?_
  simp only [stS, Spm.cs, F_precedence_place_1, g_precedence_place_1, go_sem, ↓tq_n, ↓tq_e, ↓tq_r, ↓bq_n, ↓bq_e, ↓bq_r, ↓rq_n, ↓rq_r, ↓rq_e]
  exact ret_ok rfl
theorem r_slices_IndexFunc_Specimen (nl : Bool) (e : List Spm) (tl : Tail) (f : FuncId) (caps : List AV) (p : Nat → Bool) (h : AH) (hp : ∀ i, i < e.length → RCall Tryz.prog f (stS (e.getD i dS) :: caps) h (.bool (p i))) :
    RCall Tryz.prog n_slices_IndexFunc_Specimen [.sl nl e.length (sms e) tl, .fn f caps] h (I (findI p e.length)) := by
  refine RCall.of hm cF_slices_IndexFunc_Specimen (by simp [g_slices_IndexFunc_Specimen]) fun hw h' hl => ?_
  have hx := wf_len (hw _ (.head _))
  simp only [F_slices_IndexFunc_Specimen, g_slices_IndexFunc_Specimen, go_sem, ↓tq_n, ↓tq_e, ↓tq_r, ↓bq_n, ↓bq_e, ↓bq_r, ↓rq_n, ↓rq_r, ↓rq_e]
  refine awp_loop (fun i : Nat => [(0, .sl nl e.length (sms e) tl), (1, .fn f caps), (7, I e.length), (8, I i)]) (fun _ => h') (fun i => i ≤ e.length ∧ ∀ j, j < i → p j = false) (fun i => e.length - i) 0 ⟨by omega, by omega⟩ (GStep.forget (by repeat' first | exact EnvLe.nil _ | refine EnvLe.cons (AV.le.of_eq rfl) ?_ | refine EnvLe.cons (AV.le.undef _) ?_ | refine EnvLe.cons AV.le.unk ?_) (by repeat' first | exact AH.le.refl _ | assumption | (refine AH.le_put ?_ (by first | assumption | exact (AH.blk_put_ne _ _ (by assumption)).trans (by assumption) | exact AH.none_put (by assumption) | exact AH.none_put (AH.none_put (by assumption)) | (simp only [AH.blk_setTok, AH.tok_put] at *; first | assumption | exact AH.none_put (by assumption)))) | (refine AH.le_setTok ?_ (by first | assumption | exact (AH.blk_put_ne _ _ (by assumption)).trans (by assumption) | exact AH.none_put (by assumption) | exact AH.none_put (AH.none_put (by assumption)) | (simp only [AH.blk_setTok, AH.tok_put] at *; first | assumption | exact AH.none_put (by assumption)))) | (refine AH.le_putM ?_ (by first | assumption | exact (AH.mp_putM_ne _ _ (by assumption)).trans (by assumption) | (simp only [AH.mp_put, AH.mp_setTok] at *; assumption))))) fun i hi => .of_vg hm ?_
  obtain ⟨h1, h2⟩ := hi
  by_cases h3 : i < e.length
  · have hc : (i : Int) < (e.length : Int) := by omega
    simp only [hc, sms_drop h3, F_slices_IndexFunc_Specimen, g_slices_IndexFunc_Specimen, go_sem, ↓tq_n, ↓tq_e, ↓tq_r, ↓bq_n, ↓bq_e, ↓bq_r, ↓rq_n, ↓rq_r, ↓rq_e]
    refine CallG.mk ((hp i h3).leB hl) ?_
    cases hpi : p i
    · simp only [F_slices_IndexFunc_Specimen, g_slices_IndexFunc_Specimen, go_sem, ↓tq_n, ↓tq_e, ↓tq_r, ↓bq_n, ↓bq_e, ↓bq_r, ↓rq_n, ↓rq_r, ↓rq_e]
      exact ⟨by rw [inR64]; omega, i + 1, ⟨by omega, fun j hj => by rcases Nat.lt_succ_iff_lt_or_eq.1 hj with h | rfl; exact h2 j h; exact hpi⟩, by omega, (GStep.forget (by repeat' first | exact EnvLe.nil _ | refine EnvLe.cons (AV.le.of_eq rfl) ?_ | refine EnvLe.cons (AV.le.undef _) ?_ | refine EnvLe.cons AV.le.unk ?_) (by repeat' first | exact AH.le.refl _ | assumption | (refine AH.le_put ?_ (by first | assumption | exact (AH.blk_put_ne _ _ (by assumption)).trans (by assumption) | exact AH.none_put (by assumption) | exact AH.none_put (AH.none_put (by assumption)) | (simp only [AH.blk_setTok, AH.tok_put] at *; first | assumption | exact AH.none_put (by assumption)))) | (refine AH.le_setTok ?_ (by first | assumption | exact (AH.blk_put_ne _ _ (by assumption)).trans (by assumption) | exact AH.none_put (by assumption) | exact AH.none_put (AH.none_put (by assumption)) | (simp only [AH.blk_setTok, AH.tok_put] at *; first | assumption | exact AH.none_put (by assumption)))) | (refine AH.le_putM ?_ (by first | assumption | exact (AH.mp_putM_ne _ _ (by assumption)).trans (by assumption) | (simp only [AH.mp_put, AH.mp_setTok] at *; assumption)))))⟩
    · simp only [F_slices_IndexFunc_Specimen, g_slices_IndexFunc_Specimen, go_sem, ↓tq_n, ↓tq_e, ↓tq_r, ↓bq_n, ↓bq_e, ↓bq_r, ↓rq_n, ↓rq_r, ↓rq_e]
      refine ret_hb (by repeat' first | exact AH.le.refl _ | assumption | (refine AH.le_put ?_ (by first | assumption | exact (AH.blk_put_ne _ _ (by assumption)).trans (by assumption) | exact AH.none_put (by assumption) | exact AH.none_put (AH.none_put (by assumption)) | (simp only [AH.blk_setTok, AH.tok_put] at *; first | assumption | exact AH.none_put (by assumption)))) | (refine AH.le_setTok ?_ (by first | assumption | exact (AH.blk_put_ne _ _ (by assumption)).trans (by assumption) | exact AH.none_put (by assumption) | exact AH.none_put (AH.none_put (by assumption)) | (simp only [AH.blk_setTok, AH.tok_put] at *; first | assumption | exact AH.none_put (by assumption)))) | (refine AH.le_putM ?_ (by first | assumption | exact (AH.mp_putM_ne _ _ (by assumption)).trans (by assumption) | (simp only [AH.mp_put, AH.mp_setTok] at *; assumption)))) ?_
      rw [findI_at hpi h2 h3]
  · have h3 : i = e.length := by omega
    subst h3
    simp only [F_slices_IndexFunc_Specimen, g_slices_IndexFunc_Specimen, go_sem, ↓tq_n, ↓tq_e, ↓tq_r, ↓bq_n, ↓bq_e, ↓bq_r, ↓rq_n, ↓rq_r, ↓rq_e]
    refine ret_hb (by repeat' first | exact AH.le.refl _ | assumption | (refine AH.le_put ?_ (by first | assumption | exact (AH.blk_put_ne _ _ (by assumption)).trans (by assumption) | exact AH.none_put (by assumption) | exact AH.none_put (AH.none_put (by assumption)) | (simp only [AH.blk_setTok, AH.tok_put] at *; first | assumption | exact AH.none_put (by assumption)))) | (refine AH.le_setTok ?_ (by first | assumption | exact (AH.blk_put_ne _ _ (by assumption)).trans (by assumption) | exact AH.none_put (by assumption) | exact AH.none_put (AH.none_put (by assumption)) | (simp only [AH.blk_setTok, AH.tok_put] at *; first | assumption | exact AH.none_put (by assumption)))) | (refine AH.le_putM ?_ (by first | assumption | exact (AH.mp_putM_ne _ _ (by assumption)).trans (by assumption) | (simp only [AH.mp_put, AH.mp_setTok] at *; assumption)))) ?_
    rw [findI_neg h2]
theorem r_precedence_place (nl : Bool) (l : List Spm) (tl : Tail) (x : Int) (h : AH) : RCall Tryz.prog n_precedence_placeX [.sl nl l.length (sms l) tl, I x] h (I (plc l x)) := by
  refine RCall.of hm cF_precedence_placeX (by simp [g_precedence_placeX]) fun hw h' hl => ?_
  simp only [F_precedence_placeX, g_precedence_placeX, go_sem, ↓tq_n, ↓tq_e, ↓tq_r, ↓bq_n, ↓bq_e, ↓bq_r, ↓rq_n, ↓rq_r, ↓rq_e]
  refine CallG.mk (r_slices_IndexFunc_Specimen nl l tl 68 [.sptr [I x]] (fun i => decide ((l.getD i dS).id = x)) _ (fun i hi => r_precedence_place_1 x _ _)) ?_
  simp only [F_precedence_placeX, g_precedence_placeX, go_sem, ↓tq_n, ↓tq_e, ↓tq_r, ↓bq_n, ↓bq_e, ↓bq_r, ↓rq_n, ↓rq_r, ↓rq_e]
  exact ret_ok rfl
/-- A triple with a kind. -/
def kin (k : Int) (p : Int × Int) : Int × Int × Int := (k, p.1, p.2)
/-- The arcs of a side. -/
abbrev sdA (l : List Spm) (s : Int) : List (Int × Int) := tbK (fun i k => bfS (l.getD i dS) (l.getD k dS) s) l.length l.length
/-- The pieces of the first sides. -/
def pcS (l : List Spm) : Nat → List (Int × Int × Int)
  | 0 => []
  | s + 1 => pcS l s ++ (sdA l (s : Int)).map (kin (s : Int))
/-- A claim as a piece. -/
def clP (l : List Spm) (q : Int × Int) : Int × Int × Int := (2, plc l q.1, plc l q.2)
/-- All pieces. -/
def pcs (l : List Spm) (c : List (Int × Int)) : List (Int × Int × Int) := pcS l 2 ++ c.map (clP l)
/-- The error of the evidence. -/
def gaE (l : List Spm) (c : List (Int × Int)) : Int :=
  if ckE l = 0 then
    (if 24 < l.length ∨ 64 < c.length then 6
    else if c.any (fun q => decide (plc l q.1 < 0 ∨ plc l q.2 < 0)) then 7
    else if c.any (fun q => decide (plc l q.1 = plc l q.2)) then 1 else 0)
  else ckE l
theorem sdA_len {l : List Spm} (h : l.length ≤ 24) (s : Int) : (sdA l s).length ≤ 576 := by
  have h1 := tbK_len (fun i k => bfS (l.getD i dS) (l.getD k dS) s) l.length l.length
  have h2 : l.length * l.length ≤ 24 * 24 := Nat.mul_le_mul h h
  show (tbK (fun i k => bfS (l.getD i dS) (l.getD k dS) s) l.length l.length).length ≤ 576
  omega
theorem pcS_len {l : List Spm} (h : l.length ≤ 24) : ∀ s, (pcS l s).length ≤ 576 * s := by
  intro s
  induction s with
  | zero => simp [pcS]
  | succ s ih =>
    have := sdA_len h (s : Int)
    rw [pcS, List.length_append, List.length_map]
    omega
theorem trs_snoc (P : List (Int × Int × Int)) (x : Int × Int × Int) : trs (P ++ [x]) = trs P ++ [I x.1, I x.2.1, I x.2.2] := by rw [trs_append]; rfl
/-- What gather returns. -/
def gaV (nl : Bool) (l : List Spm) (tl : Tail) (c : List (Int × Int)) : AV :=
  if gaE l c = 0 then .tup [.st [.sl nl l.length (sms l) tl, gl (trs (pcs l c)) (pcs l c).length .unk], I 0] else .tup [.st [.sl true 0 [] .full, .sl true 0 [] .full], I (gaE l c)]
theorem any_take_succ {α : Type} (d : α) {c : List α} {p : α → Bool} {i : Nat} (h : i < c.length) : (c.take (i + 1)).any p = ((c.take i).any p || p (c.getD i d)) := by
  rw [take_getD d h, List.any_append]; simp
set_option maxHeartbeats 4000000 in
theorem r_precedence_gather (nl : Bool) (l : List Spm) (tl : Tail) (n2 : Bool) (c : List (Int × Int)) (u2 : Tail) (h : AH) : RCall Tryz.prog n_precedence_gather [.sl nl l.length (sms l) tl, .sl n2 c.length (prs c) u2] h (gaV nl l tl c) := by
  refine RCall.of hm cF_precedence_gather (by simp [g_precedence_gather]) fun hw h' hl => ?_
  simp only [F_precedence_gather, g_precedence_gather, go_sem, ↓tq_n, ↓tq_e, ↓tq_r, ↓bq_n, ↓bq_e, ↓bq_r, ↓rq_n, ↓rq_r, ↓rq_e]
  refine AllocG.mk fun b4 hb4 => ?_
  simp only [F_precedence_gather, g_precedence_gather, go_sem, ↓tq_n, ↓tq_e, ↓tq_r, ↓bq_n, ↓bq_e, ↓bq_r, ↓rq_n, ↓rq_r, ↓rq_e]
  refine CallG.mk (r_specimen_Check nl l tl _) ?_
  by_cases c1 : ckE l = 0
  case neg =>
    have e1 : gaV nl l tl c = .tup [.st [.sl true 0 [] .full, .sl true 0 [] .full], I (ckE l)] := by
      have e0 : gaE l c = ckE l := by unfold gaE; rw [if_neg c1]
      unfold gaV; rw [if_neg (by rw [e0]; exact c1), e0]
    simp only [c1, F_precedence_gather, g_precedence_gather, go_sem, ↓tq_n, ↓tq_e, ↓tq_r, ↓bq_n, ↓bq_e, ↓bq_r, ↓rq_n, ↓rq_r, ↓rq_e]
    exact ret_hb (by repeat' first | exact AH.le.refl _ | assumption | (refine AH.le_put ?_ (by first | assumption | exact (AH.blk_put_ne _ _ (by assumption)).trans (by assumption) | exact AH.none_put (by assumption) | exact AH.none_put (AH.none_put (by assumption)) | (simp only [AH.blk_setTok, AH.tok_put] at *; first | assumption | exact AH.none_put (by assumption)))) | (refine AH.le_setTok ?_ (by first | assumption | exact (AH.blk_put_ne _ _ (by assumption)).trans (by assumption) | exact AH.none_put (by assumption) | exact AH.none_put (AH.none_put (by assumption)) | (simp only [AH.blk_setTok, AH.tok_put] at *; first | assumption | exact AH.none_put (by assumption)))) | (refine AH.le_putM ?_ (by first | assumption | exact (AH.mp_putM_ne _ _ (by assumption)).trans (by assumption) | (simp only [AH.mp_put, AH.mp_setTok] at *; assumption)))) e1.symm
  by_cases c2 : 24 < l.length
  · have c2' : (24 : Int) < (l.length : Int) := by omega
    have e1 : gaV nl l tl c = .tup [.st [.sl true 0 [] .full, .sl true 0 [] .full], I 6] := by
      have e0 : gaE l c = 6 := by unfold gaE; rw [if_pos c1, if_pos (.inl c2)]
      unfold gaV; rw [if_neg (by rw [e0]; decide), e0]
    simp only [c1, c2', F_precedence_gather, g_precedence_gather, go_sem, ↓tq_n, ↓tq_e, ↓tq_r, ↓bq_n, ↓bq_e, ↓bq_r, ↓rq_n, ↓rq_r, ↓rq_e]
    exact ret_hb (by repeat' first | exact AH.le.refl _ | assumption | (refine AH.le_put ?_ (by first | assumption | exact (AH.blk_put_ne _ _ (by assumption)).trans (by assumption) | exact AH.none_put (by assumption) | exact AH.none_put (AH.none_put (by assumption)) | (simp only [AH.blk_setTok, AH.tok_put] at *; first | assumption | exact AH.none_put (by assumption)))) | (refine AH.le_setTok ?_ (by first | assumption | exact (AH.blk_put_ne _ _ (by assumption)).trans (by assumption) | exact AH.none_put (by assumption) | exact AH.none_put (AH.none_put (by assumption)) | (simp only [AH.blk_setTok, AH.tok_put] at *; first | assumption | exact AH.none_put (by assumption)))) | (refine AH.le_putM ?_ (by first | assumption | exact (AH.mp_putM_ne _ _ (by assumption)).trans (by assumption) | (simp only [AH.mp_put, AH.mp_setTok] at *; assumption)))) e1.symm
  have c2' : ¬ (24 : Int) < (l.length : Int) := by omega
  by_cases c3 : 64 < c.length
  · have c3' : (64 : Int) < (c.length : Int) := by omega
    have e1 : gaV nl l tl c = .tup [.st [.sl true 0 [] .full, .sl true 0 [] .full], I 6] := by
      have e0 : gaE l c = 6 := by unfold gaE; rw [if_pos c1, if_pos (.inr c3)]
      unfold gaV; rw [if_neg (by rw [e0]; decide), e0]
    simp only [c1, c2', c3', F_precedence_gather, g_precedence_gather, go_sem, ↓tq_n, ↓tq_e, ↓tq_r, ↓bq_n, ↓bq_e, ↓bq_r, ↓rq_n, ↓rq_r, ↓rq_e]
    exact ret_hb (by repeat' first | exact AH.le.refl _ | assumption | (refine AH.le_put ?_ (by first | assumption | exact (AH.blk_put_ne _ _ (by assumption)).trans (by assumption) | exact AH.none_put (by assumption) | exact AH.none_put (AH.none_put (by assumption)) | (simp only [AH.blk_setTok, AH.tok_put] at *; first | assumption | exact AH.none_put (by assumption)))) | (refine AH.le_setTok ?_ (by first | assumption | exact (AH.blk_put_ne _ _ (by assumption)).trans (by assumption) | exact AH.none_put (by assumption) | exact AH.none_put (AH.none_put (by assumption)) | (simp only [AH.blk_setTok, AH.tok_put] at *; first | assumption | exact AH.none_put (by assumption)))) | (refine AH.le_putM ?_ (by first | assumption | exact (AH.mp_putM_ne _ _ (by assumption)).trans (by assumption) | (simp only [AH.mp_put, AH.mp_setTok] at *; assumption)))) e1.symm
  have c3' : ¬ (64 : Int) < (c.length : Int) := by omega
  have hl24 : l.length ≤ 24 := by omega
  have hgE : gaE l c = if c.any (fun q => decide (plc l q.1 < 0 ∨ plc l q.2 < 0)) then 7 else if c.any (fun q => decide (plc l q.1 = plc l q.2)) then 1 else 0 := by
    unfold gaE; rw [if_pos c1, if_neg (by omega)]
  simp only [c1, c2', c3', F_precedence_gather, g_precedence_gather, go_sem, ↓tq_n, ↓tq_e, ↓tq_r, ↓bq_n, ↓bq_e, ↓bq_r, ↓rq_n, ↓rq_r, ↓rq_e]
  refine AllocG.mk fun b7 hb7 => ?_
  have hne : b7 ≠ b4 := AH.ne_of_put hb7
  simp only [F_precedence_gather, g_precedence_gather, go_sem, ↓tq_n, ↓tq_e, ↓tq_r, ↓bq_n, ↓bq_e, ↓bq_r, ↓rq_n, ↓rq_r, ↓rq_e]
  refine awp_tokB b7 1 3 (nl := true) (n := 0) (cs := []) (AH.blk_put _ _ _) rfl fun t ht => ?_
  obtain ⟨B, hB⟩ : ∃ B : AH, B = h'.put b4 [.sl true 0 [] .full, .sl true 0 [] .full] := ⟨_, rfl⟩
  obtain ⟨F, hF⟩ : ∃ F : List (Int × Int × Int) → List AV, ∀ Q, F Q = [.sl nl l.length (sms l) tl, gl (trs Q) Q.length (.tok t)] := ⟨_, fun _ => rfl⟩
  have hleB : h'.le B := by rw [hB]; exact (by repeat' first | exact AH.le.refl _ | assumption | (refine AH.le_put ?_ (by first | assumption | exact (AH.blk_put_ne _ _ (by assumption)).trans (by assumption) | exact AH.none_put (by assumption) | exact AH.none_put (AH.none_put (by assumption)) | (simp only [AH.blk_setTok, AH.tok_put] at *; first | assumption | exact AH.none_put (by assumption)))) | (refine AH.le_setTok ?_ (by first | assumption | exact (AH.blk_put_ne _ _ (by assumption)).trans (by assumption) | exact AH.none_put (by assumption) | exact AH.none_put (AH.none_put (by assumption)) | (simp only [AH.blk_setTok, AH.tok_put] at *; first | assumption | exact AH.none_put (by assumption)))) | (refine AH.le_putM ?_ (by first | assumption | exact (AH.mp_putM_ne _ _ (by assumption)).trans (by assumption) | (simp only [AH.mp_put, AH.mp_setTok] at *; assumption))))
  have ht' : h'.tok t = none := ht
  rw [← hB] at hb7 ht ⊢
  have hbB : B.blk b4 = some [.sl true 0 [] .full, .sl true 0 [] .full] := by rw [hB, AH.blk_put]
  have hfin : ∀ (cs : List AV) (k : Nat), h'.le ((B.put b7 cs).setTok t k 3) := fun cs k => by
    have hb7' : h'.blk b7 = none := AH.none_of_le hleB hb7
    exact (by repeat' first | exact AH.le.refl _ | assumption | (refine AH.le_put ?_ (by first | assumption | exact (AH.blk_put_ne _ _ (by assumption)).trans (by assumption) | exact AH.none_put (by assumption) | exact AH.none_put (AH.none_put (by assumption)) | (simp only [AH.blk_setTok, AH.tok_put] at *; first | assumption | exact AH.none_put (by assumption)))) | (refine AH.le_setTok ?_ (by first | assumption | exact (AH.blk_put_ne _ _ (by assumption)).trans (by assumption) | exact AH.none_put (by assumption) | exact AH.none_put (AH.none_put (by assumption)) | (simp only [AH.blk_setTok, AH.tok_put] at *; first | assumption | exact AH.none_put (by assumption)))) | (refine AH.le_putM ?_ (by first | assumption | exact (AH.mp_putM_ne _ _ (by assumption)).trans (by assumption) | (simp only [AH.mp_put, AH.mp_setTok] at *; assumption))))
  have hfin4 : ∀ (cs cs2 : List AV) (k : Nat), h'.le (((B.put b7 cs).setTok t k 3).put b4 cs2) := fun cs cs2 k => AH.le_put (hfin cs k) hb4
  refine awp_loop (fun i : Nat => [(0, .sl nl l.length (sms l) tl), (1, .sl n2 c.length (prs c) u2), (4, .ptr b4 0), (7, .ptr b7 0), (34, I i)]) (fun i => (B.put b7 (F (pcS l i))).setTok t (pcS l i).length 3) (fun i => i ≤ 2) (fun i => 2 - i) 0 (Nat.zero_le _) ?_ fun i hi => .of_vg hm ?_
  · rw [hF]
    simp only [AH.put_put]
    exact (GStep.forget (by repeat' first | exact EnvLe.nil _ | refine EnvLe.cons (AV.le.of_eq rfl) ?_ | refine EnvLe.cons (AV.le.undef _) ?_ | refine EnvLe.cons AV.le.unk ?_) (by repeat' first | exact AH.le.refl _ | assumption | (refine AH.le_put ?_ (by first | assumption | exact (AH.blk_put_ne _ _ (by assumption)).trans (by assumption) | exact AH.none_put (by assumption) | exact AH.none_put (AH.none_put (by assumption)) | (simp only [AH.blk_setTok, AH.tok_put] at *; first | assumption | exact AH.none_put (by assumption)))) | (refine AH.le_setTok ?_ (by first | assumption | exact (AH.blk_put_ne _ _ (by assumption)).trans (by assumption) | exact AH.none_put (by assumption) | exact AH.none_put (AH.none_put (by assumption)) | (simp only [AH.blk_setTok, AH.tok_put] at *; first | assumption | exact AH.none_put (by assumption)))) | (refine AH.le_putM ?_ (by first | assumption | exact (AH.mp_putM_ne _ _ (by assumption)).trans (by assumption) | (simp only [AH.mp_put, AH.mp_setTok] at *; assumption)))))
  by_cases h3 : i < 2
  · have hc3 : (i : Int) < 2 := by omega
    have hi01 : (i : Int) = 0 ∨ (i : Int) = 1 := by omega
    simp only [hc3, F_precedence_gather, g_precedence_gather, go_sem, ↓tq_n, ↓tq_e, ↓tq_r, ↓bq_n, ↓bq_e, ↓bq_r, ↓rq_n, ↓rq_r, ↓rq_e]
    refine CallG.mk (r_wear_Before nl l tl i hi01 _) ?_
    have ea : arV (fun s t => bfS s t (i : Int)) l = .tup [gl (prs (sdA l (i : Int))) (sdA l (i : Int)).length .unk, I 0] := by unfold arV; rw [if_pos c1]
    rw [ea]
    have hA := sdA_len hl24 (i : Int)
    have hQ := pcS_len hl24 i
    have hsucc : pcS l (i + 1) = pcS l i ++ (sdA l (i : Int)).map (kin (i : Int)) := rfl
    obtain ⟨A, hAe⟩ : ∃ A, A = sdA l (i : Int) := ⟨_, rfl⟩
    obtain ⟨Q, hQe⟩ : ∃ Q, Q = pcS l i := ⟨_, rfl⟩
    rw [← hAe] at hA hsucc ⊢
    rw [← hQe] at hQ hsucc ⊢
    simp only [F_precedence_gather, g_precedence_gather, go_sem, ↓tq_n, ↓tq_e, ↓tq_r, ↓bq_n, ↓bq_e, ↓bq_r, ↓rq_n, ↓rq_r, ↓rq_e]
    refine awp_loop (fun j : Nat => [(0, .sl nl l.length (sms l) tl), (1, .sl n2 c.length (prs c) u2), (4, .ptr b4 0), (7, .ptr b7 0), (8, I i), (34, I i), (43, gl (prs A) A.length .unk), (44, I A.length), (45, I j)]) (fun j => (B.put b7 (F (Q ++ (A.take j).map (kin (i : Int))))).setTok t (Q ++ (A.take j).map (kin (i : Int))).length 3) (fun j => j ≤ A.length) (fun j => A.length - j) 0 (Nat.zero_le _) ?_ fun j hj => .of_vg hm ?_
    · simp only [List.take_zero, List.map_nil, List.append_nil]
      exact (GStep.forget (by repeat' first | exact EnvLe.nil _ | refine EnvLe.cons (AV.le.of_eq rfl) ?_ | refine EnvLe.cons (AV.le.undef _) ?_ | refine EnvLe.cons AV.le.unk ?_) (by repeat' first | exact AH.le.refl _ | assumption | (refine AH.le_put ?_ (by first | assumption | exact (AH.blk_put_ne _ _ (by assumption)).trans (by assumption) | exact AH.none_put (by assumption) | exact AH.none_put (AH.none_put (by assumption)) | (simp only [AH.blk_setTok, AH.tok_put] at *; first | assumption | exact AH.none_put (by assumption)))) | (refine AH.le_setTok ?_ (by first | assumption | exact (AH.blk_put_ne _ _ (by assumption)).trans (by assumption) | exact AH.none_put (by assumption) | exact AH.none_put (AH.none_put (by assumption)) | (simp only [AH.blk_setTok, AH.tok_put] at *; first | assumption | exact AH.none_put (by assumption)))) | (refine AH.le_putM ?_ (by first | assumption | exact (AH.mp_putM_ne _ _ (by assumption)).trans (by assumption) | (simp only [AH.mp_put, AH.mp_setTok] at *; assumption)))))
    by_cases h4 : j < A.length
    · have hc4 : (j : Int) < (A.length : Int) := by omega
      have e1 : Q ++ (A.take (j + 1)).map (kin (i : Int)) = (Q ++ (A.take j).map (kin (i : Int))) ++ [kin (i : Int) (A.getD j (0, 0))] := by rw [take_getD (0, 0) h4, List.map_append, List.append_assoc]; rfl
      have hle : (Q ++ (A.take j).map (kin (i : Int))).length ≤ 5000 := by rw [List.length_append, List.length_map, List.length_take]; omega
      obtain ⟨R, hR⟩ : ∃ R, R = Q ++ (A.take j).map (kin (i : Int)) := ⟨_, rfl⟩
      rw [← hR] at e1 hle ⊢
      simp only [hc4, prs_drop h4, hF R, F_precedence_gather, g_precedence_gather, go_sem, ↓tq_n, ↓tq_e, ↓tq_r, ↓bq_n, ↓bq_e, ↓bq_r, ↓rq_n, ↓rq_r, ↓rq_e]
      refine ⟨by rw [trs_len], by omega, by omega, by rw [inR64]; omega, j + 1, by omega, by omega, ?_⟩
      rw [e1, hF, trs_snoc, List.length_append]
      simp only [kin]
      exact (GStep.forget (by repeat' first | exact EnvLe.nil _ | refine EnvLe.cons (AV.le.of_eq rfl) ?_ | refine EnvLe.cons (AV.le.undef _) ?_ | refine EnvLe.cons AV.le.unk ?_) (by repeat' first | exact AH.le.refl _ | assumption | (refine AH.le_put ?_ (by first | assumption | exact (AH.blk_put_ne _ _ (by assumption)).trans (by assumption) | exact AH.none_put (by assumption) | exact AH.none_put (AH.none_put (by assumption)) | (simp only [AH.blk_setTok, AH.tok_put] at *; first | assumption | exact AH.none_put (by assumption)))) | (refine AH.le_setTok ?_ (by first | assumption | exact (AH.blk_put_ne _ _ (by assumption)).trans (by assumption) | exact AH.none_put (by assumption) | exact AH.none_put (AH.none_put (by assumption)) | (simp only [AH.blk_setTok, AH.tok_put] at *; first | assumption | exact AH.none_put (by assumption)))) | (refine AH.le_putM ?_ (by first | assumption | exact (AH.mp_putM_ne _ _ (by assumption)).trans (by assumption) | (simp only [AH.mp_put, AH.mp_setTok] at *; assumption)))))
    have h4 : j = A.length := by omega
    subst h4
    rw [List.take_length, ← hsucc]
    simp only [F_precedence_gather, g_precedence_gather, go_sem, ↓tq_n, ↓tq_e, ↓tq_r, ↓bq_n, ↓bq_e, ↓bq_r, ↓rq_n, ↓rq_r, ↓rq_e]
    exact ⟨by rw [inR64]; omega, i + 1, by omega, by omega, (GStep.forget (by repeat' first | exact EnvLe.nil _ | refine EnvLe.cons (AV.le.of_eq rfl) ?_ | refine EnvLe.cons (AV.le.undef _) ?_ | refine EnvLe.cons AV.le.unk ?_) (by repeat' first | exact AH.le.refl _ | assumption | (refine AH.le_put ?_ (by first | assumption | exact (AH.blk_put_ne _ _ (by assumption)).trans (by assumption) | exact AH.none_put (by assumption) | exact AH.none_put (AH.none_put (by assumption)) | (simp only [AH.blk_setTok, AH.tok_put] at *; first | assumption | exact AH.none_put (by assumption)))) | (refine AH.le_setTok ?_ (by first | assumption | exact (AH.blk_put_ne _ _ (by assumption)).trans (by assumption) | exact AH.none_put (by assumption) | exact AH.none_put (AH.none_put (by assumption)) | (simp only [AH.blk_setTok, AH.tok_put] at *; first | assumption | exact AH.none_put (by assumption)))) | (refine AH.le_putM ?_ (by first | assumption | exact (AH.mp_putM_ne _ _ (by assumption)).trans (by assumption) | (simp only [AH.mp_put, AH.mp_setTok] at *; assumption)))))⟩
  have h3 : i = 2 := by omega
  subst h3
  have hQ := pcS_len hl24 2
  obtain ⟨Q, hQe⟩ : ∃ Q, Q = pcS l 2 := ⟨_, rfl⟩
  have hpc : pcs l c = Q ++ c.map (clP l) := by rw [hQe]; rfl
  rw [← hQe] at hQ ⊢
  have h22 : ((2 : Nat) : Int) = 2 := rfl
  simp only [h22, F_precedence_gather, g_precedence_gather, go_sem, ↓tq_n, ↓tq_e, ↓tq_r, ↓bq_n, ↓bq_e, ↓bq_r, ↓rq_n, ↓rq_r, ↓rq_e]
  refine awp_loop (fun i : Nat => [(0, .sl nl l.length (sms l) tl), (4, .ptr b4 0), (7, .ptr b7 0), (13, .bool ((c.take i).any fun q => decide (plc l q.1 = plc l q.2))), (62, .sl n2 c.length (prs c) u2), (63, I c.length), (64, I i)]) (fun i => (B.put b7 (F (Q ++ (c.take i).map (clP l)))).setTok t (Q ++ (c.take i).map (clP l)).length 3) (fun i => i ≤ c.length ∧ (c.take i).any (fun q => decide (plc l q.1 < 0 ∨ plc l q.2 < 0)) = false) (fun i => c.length - i) 0 ⟨Nat.zero_le _, rfl⟩ ?_ fun i hi => .of_vg hm ?_
  · simp only [List.take_zero, List.map_nil, List.append_nil, List.any_nil]
    exact (GStep.forget (by repeat' first | exact EnvLe.nil _ | refine EnvLe.cons (AV.le.of_eq rfl) ?_ | refine EnvLe.cons (AV.le.undef _) ?_ | refine EnvLe.cons AV.le.unk ?_) (by repeat' first | exact AH.le.refl _ | assumption | (refine AH.le_put ?_ (by first | assumption | exact (AH.blk_put_ne _ _ (by assumption)).trans (by assumption) | exact AH.none_put (by assumption) | exact AH.none_put (AH.none_put (by assumption)) | (simp only [AH.blk_setTok, AH.tok_put] at *; first | assumption | exact AH.none_put (by assumption)))) | (refine AH.le_setTok ?_ (by first | assumption | exact (AH.blk_put_ne _ _ (by assumption)).trans (by assumption) | exact AH.none_put (by assumption) | exact AH.none_put (AH.none_put (by assumption)) | (simp only [AH.blk_setTok, AH.tok_put] at *; first | assumption | exact AH.none_put (by assumption)))) | (refine AH.le_putM ?_ (by first | assumption | exact (AH.mp_putM_ne _ _ (by assumption)).trans (by assumption) | (simp only [AH.mp_put, AH.mp_setTok] at *; assumption)))))
  obtain ⟨hi, hneg⟩ := hi
  by_cases h3 : i < c.length
  · have hc3 : (i : Int) < (c.length : Int) := by omega
    have e1 : Q ++ (c.take (i + 1)).map (clP l) = (Q ++ (c.take i).map (clP l)) ++ [clP l (c.getD i (0, 0))] := by rw [take_getD (0, 0) h3, List.map_append, List.append_assoc]; rfl
    have hle : (Q ++ (c.take i).map (clP l)).length ≤ 5000 := by rw [List.length_append, List.length_map, List.length_take]; omega
    have a1 := any_take_succ (0, 0) (p := fun q : Int × Int => decide (plc l q.1 < 0 ∨ plc l q.2 < 0)) h3
    have a2 := any_take_succ (0, 0) (p := fun q : Int × Int => decide (plc l q.1 = plc l q.2)) h3
    rw [hneg, Bool.false_or] at a1
    obtain ⟨R, hR⟩ : ∃ R, R = Q ++ (c.take i).map (clP l) := ⟨_, rfl⟩
    obtain ⟨sm, hsm⟩ : ∃ sm, sm = (c.take i).any fun q => decide (plc l q.1 = plc l q.2) := ⟨_, rfl⟩
    rw [← hR] at e1 hle ⊢
    rw [← hsm] at a2 ⊢
    have herr : (plc l (c.getD i (0, 0)).1 < 0 ∨ plc l (c.getD i (0, 0)).2 < 0) → gaV nl l tl c = .tup [.st [.sl true 0 [] .full, .sl true 0 [] .full], I 7] := fun hh => by
      have e0 : gaE l c = 7 := by
        rw [hgE, if_pos (List.any_eq_true.2 ⟨_, mem_getD (d := (0, 0)) h3, decide_eq_true hh⟩)]
      unfold gaV; rw [if_neg (by rw [e0]; decide), e0]
    simp only [hc3, prs_drop h3, F_precedence_gather, g_precedence_gather, go_sem, ↓tq_n, ↓tq_e, ↓tq_r, ↓bq_n, ↓bq_e, ↓bq_r, ↓rq_n, ↓rq_r, ↓rq_e]
    refine CallG.mk (r_precedence_place nl l tl _ _) ?_
    simp only [F_precedence_gather, g_precedence_gather, go_sem, ↓tq_n, ↓tq_e, ↓tq_r, ↓bq_n, ↓bq_e, ↓bq_r, ↓rq_n, ↓rq_r, ↓rq_e]
    refine CallG.mk (r_precedence_place nl l tl _ _) ?_
    by_cases d1 : plc l (c.getD i (0, 0)).1 < 0
    · rw [herr (.inl d1)]
      simp only [d1, AH.blk_put_ne _ _ hne.symm, hbB, F_precedence_gather, g_precedence_gather, go_sem, ↓tq_n, ↓tq_e, ↓tq_r, ↓bq_n, ↓bq_e, ↓bq_r, ↓rq_n, ↓rq_r, ↓rq_e]
      exact ret_hb (hfin4 _ _ _) rfl
    by_cases d2 : plc l (c.getD i (0, 0)).2 < 0
    · rw [herr (.inr d2)]
      simp only [d1, d2, AH.blk_put_ne _ _ hne.symm, hbB, F_precedence_gather, g_precedence_gather, go_sem, ↓tq_n, ↓tq_e, ↓tq_r, ↓bq_n, ↓bq_e, ↓bq_r, ↓rq_n, ↓rq_r, ↓rq_e]
      exact ret_hb (hfin4 _ _ _) rfl
    rw [decide_eq_false (by omega)] at a1
    cases sm with
    | true =>
      rw [Bool.true_or] at a2
      simp only [d1, d2, hF R, F_precedence_gather, g_precedence_gather, go_sem, ↓tq_n, ↓tq_e, ↓tq_r, ↓bq_n, ↓bq_e, ↓bq_r, ↓rq_n, ↓rq_r, ↓rq_e]
      refine ⟨by rw [trs_len], by omega, by omega, by rw [inR64]; omega, i + 1, ⟨by omega, a1⟩, by omega, ?_⟩
      rw [a2, e1, hF, trs_snoc, List.length_append]
      simp only [clP]
      exact (GStep.forget (by repeat' first | exact EnvLe.nil _ | refine EnvLe.cons (AV.le.of_eq rfl) ?_ | refine EnvLe.cons (AV.le.undef _) ?_ | refine EnvLe.cons AV.le.unk ?_) (by repeat' first | exact AH.le.refl _ | assumption | (refine AH.le_put ?_ (by first | assumption | exact (AH.blk_put_ne _ _ (by assumption)).trans (by assumption) | exact AH.none_put (by assumption) | exact AH.none_put (AH.none_put (by assumption)) | (simp only [AH.blk_setTok, AH.tok_put] at *; first | assumption | exact AH.none_put (by assumption)))) | (refine AH.le_setTok ?_ (by first | assumption | exact (AH.blk_put_ne _ _ (by assumption)).trans (by assumption) | exact AH.none_put (by assumption) | exact AH.none_put (AH.none_put (by assumption)) | (simp only [AH.blk_setTok, AH.tok_put] at *; first | assumption | exact AH.none_put (by assumption)))) | (refine AH.le_putM ?_ (by first | assumption | exact (AH.mp_putM_ne _ _ (by assumption)).trans (by assumption) | (simp only [AH.mp_put, AH.mp_setTok] at *; assumption)))))
    | false =>
      rw [Bool.false_or] at a2
      simp only [d1, d2, hF R, F_precedence_gather, g_precedence_gather, go_sem, ↓tq_n, ↓tq_e, ↓tq_r, ↓bq_n, ↓bq_e, ↓bq_r, ↓rq_n, ↓rq_r, ↓rq_e]
      refine ⟨by rw [trs_len], by omega, by omega, by rw [inR64]; omega, i + 1, ⟨by omega, a1⟩, by omega, ?_⟩
      rw [a2, e1, hF, trs_snoc, List.length_append]
      simp only [clP]
      exact (GStep.forget (by repeat' first | exact EnvLe.nil _ | refine EnvLe.cons (AV.le.of_eq rfl) ?_ | refine EnvLe.cons (AV.le.undef _) ?_ | refine EnvLe.cons AV.le.unk ?_) (by repeat' first | exact AH.le.refl _ | assumption | (refine AH.le_put ?_ (by first | assumption | exact (AH.blk_put_ne _ _ (by assumption)).trans (by assumption) | exact AH.none_put (by assumption) | exact AH.none_put (AH.none_put (by assumption)) | (simp only [AH.blk_setTok, AH.tok_put] at *; first | assumption | exact AH.none_put (by assumption)))) | (refine AH.le_setTok ?_ (by first | assumption | exact (AH.blk_put_ne _ _ (by assumption)).trans (by assumption) | exact AH.none_put (by assumption) | exact AH.none_put (AH.none_put (by assumption)) | (simp only [AH.blk_setTok, AH.tok_put] at *; first | assumption | exact AH.none_put (by assumption)))) | (refine AH.le_putM ?_ (by first | assumption | exact (AH.mp_putM_ne _ _ (by assumption)).trans (by assumption) | (simp only [AH.mp_put, AH.mp_setTok] at *; assumption)))))
  have h3 : i = c.length := by omega
  subst h3
  rw [List.take_length] at hneg ⊢
  rw [hneg, if_neg (by decide)] at hgE
  cases hsm : c.any fun q => decide (plc l q.1 = plc l q.2) with
  | true =>
    rw [hsm, if_pos rfl] at hgE
    have e0 : gaV nl l tl c = .tup [.st [.sl true 0 [] .full, .sl true 0 [] .full], I 1] := by unfold gaV; rw [if_neg (by rw [hgE]; decide), hgE]
    rw [e0]
    simp only [AH.blk_put_ne _ _ hne.symm, hbB, F_precedence_gather, g_precedence_gather, go_sem, ↓tq_n, ↓tq_e, ↓tq_r, ↓bq_n, ↓bq_e, ↓bq_r, ↓rq_n, ↓rq_r, ↓rq_e]
    exact ret_hb (hfin4 _ _ _) rfl
  | false =>
    rw [hsm, if_neg (by decide)] at hgE
    have e0 : gaV nl l tl c = .tup [.st [.sl nl l.length (sms l) tl, gl (trs (pcs l c)) (pcs l c).length .unk], I 0] := by unfold gaV; rw [if_pos hgE]
    rw [e0, hpc]
    simp only [hF, AH.blk_put_ne _ _ hne.symm, hbB, F_precedence_gather, g_precedence_gather, go_sem, ↓tq_n, ↓tq_e, ↓tq_r, ↓bq_n, ↓bq_e, ↓bq_r, ↓rq_n, ↓rq_r, ↓rq_e]
    refine ret_le (hfin4 _ _ _) (AV.le.tupC (.cons (AV.le.stC (.cons (AV.le.refl _) (.cons AV.le.unk .nil))) (.cons (AV.le.refl _) .nil)))
end Go.Proofs.YtidmekdkfiljjaaGreat.P
namespace Go.Abs
open Go
set_option linter.unusedSimpArgs false
set_option linter.unusedVariables false

/-- A list of pairs that grows and may be written. -/
def Gr2 (h0 : AH) (x : AV) (xs : List (Int × Int)) (h : AH) : Prop := h0.le h ∧ ((xs = [] ∧ x = .sl true 0 [] .full) ∨ (xs ≠ [] ∧ ∃ b q, x = .msl b 0 xs.length (some q) ∧ xs.length ≤ q ∧ h.blk b = some (prs xs ++ List.replicate ((q - xs.length) * 2) .undef) ∧ h0.blk b = none))
theorem Gr2.new (h : AH) : Gr2 h (.sl true 0 [] .full) [] h := ⟨AH.le.refl h, .inl ⟨rfl, rfl⟩⟩
theorem prs_snoc1 (P : List (Int × Int)) (x : Int × Int) : prs (P ++ [x]) = prs P ++ [.int .i64 x.1, .int .i64 x.2] := by rw [prs_append]; rfl
theorem Gr2.step {h0 h : AH} {x : AV} {xs : List (Int × Int)} (k : Gr2 h0 x xs h) (hl : xs.length ≤ 100000) {v : Int × Int} {KS : AV → AH → Prop} (hk : ∀ x' h', Gr2 h0 x' (xs ++ [v]) h' → KS x' h') :
    AiS h 2 16 x (.sl false 1 [.int .i64 v.1, .int .i64 v.2] .full) (c := ⟨KS⟩) := by
  rcases k with ⟨hle, ⟨rfl, rfl⟩ | ⟨hne, b, q, rfl, hq, hb, hn⟩⟩
  · rw [aiS_full, rg_sl]
    refine ⟨rfl, rfl, by omega, by omega, by omega, GrowG.mk fun b q hq hb => hk _ _ ⟨AH.le_put hle (AH.none_of_le hle hb), .inr ⟨by simp, b, q, rfl, hq, ?_, AH.none_of_le hle hb⟩⟩⟩
    rw [AH.blk_put]; rfl
  · rw [aiS_msl, rg_sl, hb, BlkG_some]
    have hlen : (prs xs ++ List.replicate ((q - xs.length) * 2) AV.undef).length = q * 2 := by rw [List.length_append, prs_len, List.length_replicate]; omega
    refine ⟨rfl, by omega, by omega, by rw [hlen]; omega, fun h1 => ⟨by rw [hlen]; omega, hk _ _ ⟨AH.le_put hle hn, .inr ⟨by simp, b, q, by simp, by simpa using h1, ?_, hn⟩⟩⟩, fun h1 => GrowG.mk fun b' q' hq' hb' => hk _ _ ⟨AH.le_put hle (AH.none_of_le hle hb'), .inr ⟨by simp, b', q', by simp, by simpa using hq', ?_, AH.none_of_le hle hb'⟩⟩⟩
    · rw [AH.blk_put]
      congr 1
      rw [Nat.zero_add, prs_snoc1, List.length_append, List.append_assoc]
      have e1 : (prs xs ++ List.replicate ((q - xs.length) * 2) AV.undef).take (xs.length * 2) = prs xs := by
        rw [List.take_append_of_le_length (by rw [prs_len]; exact Nat.le_refl _), List.take_of_length_le (by rw [prs_len]; exact Nat.le_refl _)]
      have e2 : (prs xs ++ List.replicate ((q - xs.length) * 2) AV.undef).drop (xs.length * 2 + 2) = List.replicate ((q - (xs.length + 1)) * 2) AV.undef := by
        rw [List.drop_append, List.drop_of_length_le (by rw [prs_len]; omega), prs_len, List.drop_replicate, List.nil_append]
        congr 1
        omega
      rw [spl_eq _ _ _ (by rw [hlen]; simp only [List.length_cons, List.length_nil]; omega), e1]
      simp only [List.length_cons, List.length_nil, Nat.zero_add, Nat.reduceAdd, e2]
      simp
    · rw [AH.blk_put]
      congr 1
      simp [prs]
      show List.take (xs.length * 2) (prs xs ++ _) = prs xs
      rw [List.take_append_of_le_length (by rw [prs_len]; exact Nat.le_refl _), List.take_of_length_le (by rw [prs_len]; exact Nat.le_refl _)]

/-- The first m pairs, without those that equal the one before. -/
def ddP (xs : List (Int × Int)) : Nat → List (Int × Int)
  | 0 => []
  | m + 1 => if 0 < m ∧ xs.getD m (0, 0) = xs.getD (m - 1) (0, 0) then ddP xs m else ddP xs m ++ [xs.getD m (0, 0)]
theorem ddP_len (xs : List (Int × Int)) : ∀ m, (ddP xs m).length ≤ m := by
  intro m
  induction m with
  | zero => simp [ddP]
  | succ m ih =>
    unfold ddP
    split
    · omega
    · simp only [List.length_append, List.length_singleton]; omega
theorem ddP_mem (xs : List (Int × Int)) : ∀ m x, x ∈ ddP xs m ↔ ∃ j, j < m ∧ xs.getD j (0, 0) = x := by
  intro m
  induction m with
  | zero => intro x; simp [ddP]
  | succ m ih =>
    intro x
    unfold ddP
    split
    · rename_i hc
      rw [ih]
      constructor
      · rintro ⟨j, h1, h2⟩; exact ⟨j, by omega, h2⟩
      · rintro ⟨j, h1, h2⟩
        rcases Nat.lt_succ_iff_lt_or_eq.1 h1 with h1 | rfl
        · exact ⟨j, h1, h2⟩
        · exact ⟨j - 1, by omega, by rw [← hc.2, h2]⟩
    · rw [List.mem_append, ih, List.mem_singleton]
      constructor
      · rintro (⟨j, h1, h2⟩ | rfl)
        · exact ⟨j, by omega, h2⟩
        · exact ⟨m, by omega, rfl⟩
      · rintro ⟨j, h1, h2⟩
        rcases Nat.lt_succ_iff_lt_or_eq.1 h1 with h1 | rfl
        · exact .inl ⟨j, h1, h2⟩
        · exact .inr h2.symm
/-- The order of pairs. -/
def Lx (p q : Int × Int) : Prop := p.1 < q.1 ∨ p.1 = q.1 ∧ p.2 < q.2
theorem Lx.irr {p : Int × Int} : ¬ Lx p p := by unfold Lx; omega
theorem Lx.trans {p q r : Int × Int} (h1 : Lx p q) (h2 : Lx q r) : Lx p r := by unfold Lx at *; omega
/-- Of pairs in order, they ascend strictly. -/
theorem ddP_asc {xs : List (Int × Int)} (hs : ∀ i j, i ≤ j → j < xs.length → ¬ Lx (xs.getD j (0, 0)) (xs.getD i (0, 0))) : ∀ m, m ≤ xs.length → (ddP xs m).Pairwise Lx := by
  intro m
  induction m with
  | zero => intro _; exact .nil
  | succ m ih =>
    intro hm
    unfold ddP
    split
    · exact ih (by omega)
    · rename_i hc
      refine List.pairwise_append.2 ⟨ih (by omega), List.pairwise_singleton _ _, fun a ha b hb => ?_⟩
      obtain ⟨j, h1, rfl⟩ := (ddP_mem xs m a).1 ha
      simp at hb
      subst hb
      have e1 := hs j (m - 1) (by omega) (by omega)
      have e2 := hs (m - 1) m (by omega) (by omega)
      have e3 : xs.getD m (0, 0) ≠ xs.getD (m - 1) (0, 0) := fun hh => hc ⟨by omega, hh⟩
      have e4 := fun hh1 hh2 => e3 (Prod.ext hh1 hh2)
      simp only [← List.getD_eq_getElem?_getD] at *
      generalize xs.getD m (0, 0) = pm at *
      generalize xs.getD (m - 1) (0, 0) = pn at *
      generalize xs.getD j (0, 0) = pj at *
      unfold Lx at *
      by_cases h5 : pm.1 = pn.1
      · have e5 : pm.2 ≠ pn.2 := e4 h5
        omega
      · omega
theorem ddP_full {xs : List (Int × Int)} (h : ∀ j, 0 < j → j < xs.length → xs.getD j (0, 0) ≠ xs.getD (j - 1) (0, 0)) : ∀ m, m ≤ xs.length → ddP xs m = xs.take m := by
  intro m
  induction m with
  | zero => intro _; rfl
  | succ m ih =>
    intro hm
    rw [ddP, if_neg (fun hh => h m hh.1 (by omega) hh.2), ih (by omega), take_getD (0, 0) (by omega)]
end Go.Abs
namespace Go.Abs
open Go
set_option linter.unusedSimpArgs false
set_option linter.unusedVariables false

/-- A queue beside the block b5. -/
def Qv (h0 : AH) (b5 : Nat) (x : AV) (qs : List Int) (H : AH) : Prop := h0.le H ∧ H.blk b5 ≠ none ∧ ((∃ u, qs = [u] ∧ x = .sl false 1 [.int .i64 u] .full) ∨ (qs = [] ∧ ∃ nl tl, x = .sl nl 0 [] tl) ∨ ∃ b q off pre rest, b ≠ b5 ∧ off = pre.length ∧ x = .msl b off qs.length (some q) ∧ H.blk b = some (pre ++ (i64s qs ++ rest)) ∧ rest.length + qs.length = q ∧ h0.blk b = none)
section
variable {h0 H : AH} {b5 : Nat} {x : AV} {qs : List Int} {K : AV → Prop}
theorem Qv.step (k : Qv h0 b5 x qs H) (hq : qs ≠ []) (hl : qs.length ≤ 1000) {v : Int} {KS : AV → AH → Prop} (hk : ∀ x' H', Qv h0 b5 x' (qs ++ [v]) H' → H'.blk b5 = H.blk b5 → KS x' H') :
    AiS H 1 8 x (.sl false 1 [.int .i64 v] .full) (c := ⟨KS⟩) := by
  obtain ⟨hle, h5, ⟨u, rfl, rfl⟩ | ⟨rfl, _⟩ | ⟨b, q, off, pre, rest, hne, rfl, rfl, hb, e3, e4⟩⟩ := k
  · rw [aiS_full, rg_sl]
    refine ⟨rfl, rfl, by omega, by omega, by omega, GrowG.mk fun b q hq hb => ?_⟩
    have hne : b ≠ b5 := fun hh => h5 (by rw [← hh]; exact hb)
    refine hk _ _ ⟨AH.le_put hle (AH.none_of_le hle hb), by rw [AH.blk_put_ne _ _ (fun hh => hne hh.symm)]; exact h5, .inr (.inr ⟨b, q, 0, [], List.replicate (q - (1 + 1)) .undef, hne, rfl, rfl, ?_, ?_, AH.none_of_le hle hb⟩)⟩ ?_
    · rw [AH.blk_put]; simp [i64s]
    · simp; omega
    · exact AH.blk_put_ne _ _ (fun hh => hne hh.symm)
  · exact absurd rfl hq
  · rw [aiS_msl, rg_sl, hb, BlkG_some]
    have hlen : (pre ++ (i64s qs ++ rest)).length = pre.length + q := by simp only [List.length_append, i64s_len]; omega
    refine ⟨rfl, by omega, by omega, by rw [hlen]; omega, fun h1 => ⟨by rw [hlen]; omega, ?_⟩, fun h1 => GrowG.mk fun b' q' hq' hb' => ?_⟩
    · obtain ⟨r, rest', hr⟩ : ∃ r rest', rest = r :: rest' := by
        cases rest with
        | nil => simp at e3; omega
        | cons r rest' => exact ⟨r, rest', rfl⟩
      subst hr
      have e0 : spl (pre ++ (i64s qs ++ r :: rest')) (pre.length + qs.length * 1) [.int .i64 v] = pre ++ (i64s (qs ++ [v]) ++ rest') := by
        rw [spl_eq _ _ _ (by rw [hlen]; simp only [List.length_singleton]; omega)]
        have t1 : (pre ++ (i64s qs ++ r :: rest')).take (pre.length + qs.length * 1) = pre ++ i64s qs := by
          rw [← List.append_assoc, List.take_append_of_le_length (by simp [i64s_len]), List.take_of_length_le (by simp [i64s_len])]
        have t2 : (pre ++ (i64s qs ++ r :: rest')).drop (pre.length + qs.length * 1 + 1) = rest' := by
          rw [← List.append_assoc, List.drop_append, List.drop_of_length_le (by simp [i64s_len])]
          simp [i64s_len]
        simp only [List.length_singleton, t1, t2, i64s_append]
        simp [i64s]
      rw [e0]
      refine hk _ _ ⟨AH.le_put hle e4, by rw [AH.blk_put_ne _ _ (fun hh => hne hh.symm)]; exact h5, .inr (.inr ⟨b, q, pre.length, pre, rest', hne, rfl, by simp, AH.blk_put _ _ _, by simp at e3 ⊢; omega, e4⟩)⟩ (AH.blk_put_ne _ _ (fun hh => hne hh.symm))
    · have hne' : b' ≠ b5 := fun hh => h5 (by rw [← hh]; exact hb')
      have t1 : ((pre ++ (i64s qs ++ rest)).drop pre.length).take (qs.length * 1) = i64s qs := by
        rw [List.drop_append, List.drop_of_length_le (by omega), List.nil_append, Nat.sub_self, List.drop_zero, Nat.mul_one, List.take_append_of_le_length (by rw [i64s_len]; exact Nat.le_refl _), List.take_of_length_le (by rw [i64s_len]; exact Nat.le_refl _)]
      rw [t1]
      refine hk _ _ ⟨AH.le_put hle (AH.none_of_le hle hb'), by rw [AH.blk_put_ne _ _ (fun hh => hne' hh.symm)]; exact h5, .inr (.inr ⟨b', q', 0, [], List.replicate (q' - (qs.length + 1)) .undef, hne', rfl, by simp, ?_, ?_, AH.none_of_le hle hb'⟩)⟩ (AH.blk_put_ne _ _ (fun hh => hne' hh.symm))
      · rw [AH.blk_put]; simp [i64s]
      · simp; omega
/-- The head is cut off. -/
theorem Qv.pop {u : Int} (k : Qv h0 b5 x (u :: qs) H) : (x = .sl false 1 [.int .i64 u] .full ∧ qs = []) ∨ ∃ b q off, x = .msl b off (u :: qs).length (some q) ∧ (u :: qs).length ≤ q ∧ (1 < q → Qv h0 b5 (.msl b (off + 1) qs.length (some (q - 1))) qs H) ∧ (¬ 1 < q → qs = []) := by
  obtain ⟨hle, h5, ⟨v, e1, e2⟩ | ⟨e1, _⟩ | ⟨b, q, off, pre, rest, hne, rfl, rfl, hb, e3, e4⟩⟩ := k
  · injection e1 with e1 e1'
    subst e1
    exact .inl ⟨e2, e1'⟩
  · cases e1
  · refine .inr ⟨b, q, pre.length, rfl, by omega, fun h1 => ⟨hle, h5, .inr (.inr ⟨b, q - 1, _, pre ++ [.int .i64 u], rest, hne, by simp, rfl, ?_, ?_, e4⟩)⟩, fun h1 => ?_⟩
    · rw [hb]; simp [i64s]
    · simp at e3; omega
    · simp at e3
      exact List.eq_nil_of_length_eq_zero (by omega)
end
end Go.Abs
namespace Go.Proofs.YtidmekdkfiljjaaGreat.P
open Go Go.Abs
set_option linter.unusedSimpArgs false
set_option linter.unusedVariables false
set_option maxRecDepth 20000

theorem r_slices_Compact0 (nl : Bool) (tl : Tail) (h : AH) : ACalls Tryz.prog n_slices_Compact_Arc [.sl nl 0 [] tl] h fun r h' => r = .sl nl 0 [] tl ∧ h' = h := by
  refine ACalls.of hm cF_slices_Compact_Arc (by simp [g_slices_Compact_Arc]) fun hw => ?_
  have h02 : ((0 : Nat) : Int) < 2 := by omega
  simp only [h02, F_slices_Compact_Arc, g_slices_Compact_Arc, go_sem, ↓tq_n, ↓tq_e, ↓tq_r, ↓bq_n, ↓bq_e, ↓bq_r, ↓rq_n, ↓rq_r, ↓rq_e]
  exact ⟨_, _, RGh.refl _ _, rfl, rfl⟩
theorem prs_take (l : List (Int × Int)) (k : Nat) : (prs l).take (k * 2) = prs (l.take k) := by
  induction l generalizing k with
  | nil => simp [prs]
  | cons x l ih =>
    cases k with
    | zero => simp [prs]
    | succ k =>
      have e : prs (x :: l) = I x.1 :: I x.2 :: prs l := rfl
      rw [e, show (k + 1) * 2 = k * 2 + 1 + 1 by omega, List.take_succ_cons, List.take_succ_cons, ih]; rfl
theorem prs_set (l : List (Int × Int)) (k : Nat) (v : Int × Int) : ((prs l).set (k * 2) (I v.1)).set (k * 2 + 1) (I v.2) = prs (l.set k v) := by
  induction l generalizing k with
  | nil => simp [prs]
  | cons x l ih =>
    have e : prs (x :: l) = I x.1 :: I x.2 :: prs l := rfl
    cases k with
    | zero => rfl
    | succ k =>
      rw [e, show (k + 1) * 2 = k * 2 + 1 + 1 by omega]
      simp only [List.set_cons_succ]
      rw [ih]; rfl
set_option maxHeartbeats 2000000 in
/-- The list is compacted in place; the rest is cleared. -/
theorem s_slices_Compact_Arc (xs : List (Int × Int)) (hx : 1 ≤ xs.length) (hx2 : xs.length ≤ 100000) {q : Nat} (hq : xs.length ≤ q) {h : AH} {b : Nat} {rest : List AV} (hb : h.blk b = some (prs xs ++ rest)) :
    ACalls Tryz.prog n_slices_Compact_Arc [.msl b 0 xs.length (some q)] h fun r h' => r = .sl false (ddP xs xs.length).length (prs (ddP xs xs.length)) .unk ∧ h' = h.del b := by
  refine ACalls.of hm cF_slices_Compact_Arc (by simp [g_slices_Compact_Arc]) fun hw => ?_
  have hfix : ∀ {H : AH} {cs : List AV} {n : Nat} {ys : List (Int × Int)} {cap : Option Nat}, n = ys.length → cs.take (n * 2) = prs ys → ∃ r' h'', RGh (.msl b 0 n cap) (H.put b cs) r' h'' ∧ r' = .sl false ys.length (prs ys) .unk ∧ h'' = (H.put b cs).del b := fun {H cs n ys cap} hn hc => by
    have := RGh.fix (n := n) (cap := cap) (AH.blk_put H b cs) 2
    rw [hc] at this
    exact ⟨_, _, this, by rw [hn], rfl⟩
  have hfix0 : ∀ {cap : Option Nat}, ∃ r' h'', RGh (.msl b 0 xs.length cap) h r' h'' ∧ r' = .sl false xs.length (prs xs) .unk ∧ h'' = h.del b := fun {cap} => by
    have := RGh.fix (n := xs.length) (cap := cap) hb 2
    rw [List.take_append_of_le_length (by rw [prs_len]; exact Nat.le_refl _), List.take_of_length_le (by rw [prs_len]; exact Nat.le_refl _)] at this
    exact ⟨_, _, this, rfl, rfl⟩
  by_cases h2 : xs.length < 2
  · have hc : (xs.length : Int) < 2 := by omega
    have e1 : ddP xs xs.length = xs := by rw [ddP_full (fun j h0 hj => by omega) _ (Nat.le_refl _), List.take_length]
    simp only [hc, F_slices_Compact_Arc, g_slices_Compact_Arc, go_sem, ↓tq_n, ↓tq_e, ↓tq_r, ↓bq_n, ↓bq_e, ↓bq_r, ↓rq_n, ↓rq_r, ↓rq_e]
    rw [e1]; exact hfix0
  have hc : ¬ (xs.length : Int) < 2 := by omega
  simp only [hc, F_slices_Compact_Arc, g_slices_Compact_Arc, go_sem, ↓tq_n, ↓tq_e, ↓tq_r, ↓bq_n, ↓bq_e, ↓bq_r, ↓rq_n, ↓rq_r, ↓rq_e]
  have hdrop : ∀ j, j < xs.length → (prs xs ++ rest).drop (j * 2) = I (xs.getD j (0, 0)).1 :: I (xs.getD j (0, 0)).2 :: ((prs xs).drop (j * 2 + 2) ++ rest) := fun j hj => by
    rw [List.drop_append_of_le_length (by rw [prs_len]; omega), prs_drop hj]; rfl
  refine awp_loop (fun k : Nat => [(0, .msl b 0 xs.length (some q)), (3, I k)]) (fun _ => h) (fun k => 1 ≤ k ∧ k ≤ xs.length ∧ ∀ j, 0 < j → j < k → xs.getD j (0, 0) ≠ xs.getD (j - 1) (0, 0)) (fun k => xs.length - k) 1 ⟨Nat.le_refl _, hx, fun j h0 hj => by omega⟩ (GStep.forget (by repeat' first | exact EnvLe.nil _ | refine EnvLe.cons (AV.le.of_eq rfl) ?_ | refine EnvLe.cons (AV.le.undef _) ?_ | refine EnvLe.cons AV.le.unk ?_) (by repeat' first | exact AH.le.refl _ | assumption | (refine AH.le_put ?_ (by first | assumption | exact (AH.blk_put_ne _ _ (by assumption)).trans (by assumption) | exact AH.none_put (by assumption) | exact AH.none_put (AH.none_put (by assumption)) | (simp only [AH.blk_setTok, AH.tok_put] at *; first | assumption | exact AH.none_put (by assumption)))) | (refine AH.le_setTok ?_ (by first | assumption | exact (AH.blk_put_ne _ _ (by assumption)).trans (by assumption) | exact AH.none_put (by assumption) | exact AH.none_put (AH.none_put (by assumption)) | (simp only [AH.blk_setTok, AH.tok_put] at *; first | assumption | exact AH.none_put (by assumption)))) | (refine AH.le_putM ?_ (by first | assumption | exact (AH.mp_putM_ne _ _ (by assumption)).trans (by assumption) | (simp only [AH.mp_put, AH.mp_setTok] at *; assumption))))) fun k hk => .of_vg hm ?_
  obtain ⟨k1, k2, k3⟩ := hk
  by_cases hkn : k < xs.length
  case neg =>
    have hkn : k = xs.length := by omega
    subst hkn
    have e1 : ddP xs xs.length = xs := by rw [ddP_full k3 _ (Nat.le_refl _), List.take_length]
    simp only [F_slices_Compact_Arc, g_slices_Compact_Arc, go_sem, ↓tq_n, ↓tq_e, ↓tq_r, ↓bq_n, ↓bq_e, ↓bq_r, ↓rq_n, ↓rq_r, ↓rq_e]
    rw [e1]; exact hfix0
  have hkc : (k : Int) < (xs.length : Int) := by omega
  have hkm : (k : Int) - 1 = ((k - 1 : Nat) : Int) := by omega
  have hkr : InR .i64 ((k - 1 : Nat) : Int) := by rw [inR64]; omega
  have hkc1 : ((k - 1 : Nat) : Int) < (xs.length : Int) := by omega
  have hkq : k < q := by omega
  by_cases heq : xs.getD k (0, 0) = xs.getD (k - 1) (0, 0)
  case neg =>
    have hnext : ∀ j, 0 < j → j < k + 1 → xs.getD j (0, 0) ≠ xs.getD (j - 1) (0, 0) := fun j h0 hj => by
      rcases lt_succ_cases hj with hj | rfl
      · exact k3 j h0 hj
      · exact heq
    by_cases hq1 : (xs.getD k (0, 0)).1 = (xs.getD (k - 1) (0, 0)).1
    · have hq2 : ¬ (xs.getD k (0, 0)).2 = (xs.getD (k - 1) (0, 0)).2 := fun hh => heq (Prod.ext hq1 hh)
      simp only [hkc, hkm, hkr, hkc1, hb, hdrop k hkn, hdrop (k - 1) (by omega), hq1, hq2, Bool.true_and, Bool.false_and, Bool.and_self, F_slices_Compact_Arc, g_slices_Compact_Arc, go_sem, ↓tq_n, ↓tq_e, ↓tq_r, ↓bq_n, ↓bq_e, ↓bq_r, ↓rq_n, ↓rq_r, ↓rq_e]
      exact ⟨by rw [inR64]; omega, k + 1, ⟨by omega, by omega, hnext⟩, by omega, (GStep.forget (by repeat' first | exact EnvLe.nil _ | refine EnvLe.cons (AV.le.of_eq rfl) ?_ | refine EnvLe.cons (AV.le.undef _) ?_ | refine EnvLe.cons AV.le.unk ?_) (by repeat' first | exact AH.le.refl _ | assumption | (refine AH.le_put ?_ (by first | assumption | exact (AH.blk_put_ne _ _ (by assumption)).trans (by assumption) | exact AH.none_put (by assumption) | exact AH.none_put (AH.none_put (by assumption)) | (simp only [AH.blk_setTok, AH.tok_put] at *; first | assumption | exact AH.none_put (by assumption)))) | (refine AH.le_setTok ?_ (by first | assumption | exact (AH.blk_put_ne _ _ (by assumption)).trans (by assumption) | exact AH.none_put (by assumption) | exact AH.none_put (AH.none_put (by assumption)) | (simp only [AH.blk_setTok, AH.tok_put] at *; first | assumption | exact AH.none_put (by assumption)))) | (refine AH.le_putM ?_ (by first | assumption | exact (AH.mp_putM_ne _ _ (by assumption)).trans (by assumption) | (simp only [AH.mp_put, AH.mp_setTok] at *; assumption)))))⟩
    · simp only [hkc, hkm, hkr, hkc1, hb, hdrop k hkn, hdrop (k - 1) (by omega), hq1, Bool.true_and, Bool.false_and, Bool.and_self, F_slices_Compact_Arc, g_slices_Compact_Arc, go_sem, ↓tq_n, ↓tq_e, ↓tq_r, ↓bq_n, ↓bq_e, ↓bq_r, ↓rq_n, ↓rq_r, ↓rq_e]
      exact ⟨by rw [inR64]; omega, k + 1, ⟨by omega, by omega, hnext⟩, by omega, (GStep.forget (by repeat' first | exact EnvLe.nil _ | refine EnvLe.cons (AV.le.of_eq rfl) ?_ | refine EnvLe.cons (AV.le.undef _) ?_ | refine EnvLe.cons AV.le.unk ?_) (by repeat' first | exact AH.le.refl _ | assumption | (refine AH.le_put ?_ (by first | assumption | exact (AH.blk_put_ne _ _ (by assumption)).trans (by assumption) | exact AH.none_put (by assumption) | exact AH.none_put (AH.none_put (by assumption)) | (simp only [AH.blk_setTok, AH.tok_put] at *; first | assumption | exact AH.none_put (by assumption)))) | (refine AH.le_setTok ?_ (by first | assumption | exact (AH.blk_put_ne _ _ (by assumption)).trans (by assumption) | exact AH.none_put (by assumption) | exact AH.none_put (AH.none_put (by assumption)) | (simp only [AH.blk_setTok, AH.tok_put] at *; first | assumption | exact AH.none_put (by assumption)))) | (refine AH.le_putM ?_ (by first | assumption | exact (AH.mp_putM_ne _ _ (by assumption)).trans (by assumption) | (simp only [AH.mp_put, AH.mp_setTok] at *; assumption)))))⟩
  have hpre : ∀ m, m ≤ k → ddP xs m = xs.take m := by
    intro m
    induction m with
    | zero => intro _; rfl
    | succ m ih =>
      intro hmk
      rw [ddP, if_neg (fun hh => k3 m hh.1 (by omega) hh.2), ih (by omega), take_getD (0, 0) (by omega)]
  have hd1 : ddP xs (k + 1) = xs.take k := by rw [ddP, if_pos ⟨by omega, heq⟩, hpre k (Nat.le_refl _)]
  have heq1 : (xs.getD k (0, 0)).1 = (xs.getD (k - 1) (0, 0)).1 := by rw [heq]
  have heq2 : (xs.getD k (0, 0)).2 = (xs.getD (k - 1) (0, 0)).2 := by rw [heq]
  simp only [hkc, hkm, hkr, hkc1, hb, hdrop k hkn, hdrop (k - 1) (by omega), heq1, heq2, Bool.true_and, Bool.false_and, Bool.and_self, mslCut_lt hkq, F_slices_Compact_Arc, g_slices_Compact_Arc, go_sem, ↓tq_n, ↓tq_e, ↓tq_r, ↓bq_n, ↓bq_e, ↓bq_r, ↓rq_n, ↓rq_r, ↓rq_e]
  refine ⟨by omega, by omega, ?_⟩
  refine awp_loop (α := Nat × Nat × List (Int × Int)) (fun p => [(0, .msl b 0 xs.length (some q)), (3, I p.2.1), (4, .msl b (k * 2) (xs.length - k) (some (q - k))), (5, I p.1)]) (fun p => h.put b (prs p.2.2 ++ rest))
    (fun p => 1 ≤ p.1 ∧ p.1 ≤ xs.length - k ∧ p.2.2.length = xs.length ∧ (∀ j, k + p.1 - 1 ≤ j → j < xs.length → p.2.2.getD j (0, 0) = xs.getD j (0, 0)) ∧ ddP xs (k + p.1) = p.2.2.take p.2.1 ∧ p.2.1 ≤ k + p.1 - 1) (fun p => xs.length - k - p.1) (1, k, xs) ⟨Nat.le_refl _, by omega, rfl, fun _ _ _ => rfl, hd1, (by show k ≤ k + 1 - 1; omega)⟩ ?_ fun p hp => .of_vg hm ?_
  · rw [AH.put_same hb]
    exact (GStep.forget (by repeat' first | exact EnvLe.nil _ | refine EnvLe.cons (AV.le.of_eq rfl) ?_ | refine EnvLe.cons (AV.le.undef _) ?_ | refine EnvLe.cons AV.le.unk ?_) (by repeat' first | exact AH.le.refl _ | assumption | (refine AH.le_put ?_ (by first | assumption | exact (AH.blk_put_ne _ _ (by assumption)).trans (by assumption) | exact AH.none_put (by assumption) | exact AH.none_put (AH.none_put (by assumption)) | (simp only [AH.blk_setTok, AH.tok_put] at *; first | assumption | exact AH.none_put (by assumption)))) | (refine AH.le_setTok ?_ (by first | assumption | exact (AH.blk_put_ne _ _ (by assumption)).trans (by assumption) | exact AH.none_put (by assumption) | exact AH.none_put (AH.none_put (by assumption)) | (simp only [AH.blk_setTok, AH.tok_put] at *; first | assumption | exact AH.none_put (by assumption)))) | (refine AH.le_putM ?_ (by first | assumption | exact (AH.mp_putM_ne _ _ (by assumption)).trans (by assumption) | (simp only [AH.mp_put, AH.mp_setTok] at *; assumption)))))
  obtain ⟨m, K, B⟩ := p
  obtain ⟨p1, p2, p3, p4, p5, p6⟩ := hp
  simp only at p1 p2 p3 p4 p5 p6 ⊢
  have hlen : (prs B ++ rest).length = xs.length * 2 + rest.length := by rw [List.length_append, prs_len, p3]
  by_cases hm2 : m < xs.length - k
  · have hc1 : (m : Int) < ((xs.length - k : Nat) : Int) := by omega
    have hmm : (m : Int) - 1 = ((m - 1 : Nat) : Int) := by omega
    have hmr : InR .i64 ((m - 1 : Nat) : Int) := by rw [inR64]; omega
    have hc2 : ((m - 1 : Nat) : Int) < ((xs.length - k : Nat) : Int) := by omega
    have hKc : (K : Int) < (xs.length : Int) := by omega
    have hBd : ∀ j, k + m - 1 ≤ j → j < xs.length → (prs B ++ rest).drop (j * 2) = I (xs.getD j (0, 0)).1 :: I (xs.getD j (0, 0)).2 :: ((prs B).drop (j * 2 + 2) ++ rest) := fun j h1 h2 => by
      rw [List.drop_append_of_le_length (by rw [prs_len]; omega), prs_drop (by omega), p4 j h1 h2]; rfl
    have hd2 := hBd (k + m) (by omega) (by omega)
    have hd3 := hBd (k + (m - 1)) (by omega) (by omega)
    have ho2 : k * 2 + m * 2 = (k + m) * 2 := by omega
    have ho3 : k * 2 + (m - 1) * 2 = (k + (m - 1)) * 2 := by omega
    by_cases hne : xs.getD (k + m) (0, 0) = xs.getD (k + (m - 1)) (0, 0)
    · have e1 : ddP xs (k + (m + 1)) = ddP xs (k + m) := by
        rw [← Nat.add_assoc, ddP, if_pos ⟨by omega, by rw [show k + m - 1 = k + (m - 1) by omega]; exact hne⟩]
      have hn1 : (xs.getD (k + m) (0, 0)).1 = (xs.getD (k + (m - 1)) (0, 0)).1 := by rw [hne]
      have hn2 : (xs.getD (k + m) (0, 0)).2 = (xs.getD (k + (m - 1)) (0, 0)).2 := by rw [hne]
      simp only [hc1, hmm, hmr, hc2, ho2, ho3, hd2, hd3, hn1, hn2, Bool.true_and, Bool.false_and, Bool.and_self, F_slices_Compact_Arc, g_slices_Compact_Arc, go_sem, ↓tq_n, ↓tq_e, ↓tq_r, ↓bq_n, ↓bq_e, ↓bq_r, ↓rq_n, ↓rq_r, ↓rq_e]
      exact ⟨by rw [inR64]; omega, (m + 1, K, B), ⟨by simp only; omega, by simp only; omega, p3, fun j h1 h2 => p4 j (by simp only at h1; omega) h2, by simp only; rw [e1]; exact p5, by simp only; omega⟩, by simp only; omega, (GStep.forget (by repeat' first | exact EnvLe.nil _ | refine EnvLe.cons (AV.le.of_eq rfl) ?_ | refine EnvLe.cons (AV.le.undef _) ?_ | refine EnvLe.cons AV.le.unk ?_) (by repeat' first | exact AH.le.refl _ | assumption | (refine AH.le_put ?_ (by first | assumption | exact (AH.blk_put_ne _ _ (by assumption)).trans (by assumption) | exact AH.none_put (by assumption) | exact AH.none_put (AH.none_put (by assumption)) | (simp only [AH.blk_setTok, AH.tok_put] at *; first | assumption | exact AH.none_put (by assumption)))) | (refine AH.le_setTok ?_ (by first | assumption | exact (AH.blk_put_ne _ _ (by assumption)).trans (by assumption) | exact AH.none_put (by assumption) | exact AH.none_put (AH.none_put (by assumption)) | (simp only [AH.blk_setTok, AH.tok_put] at *; first | assumption | exact AH.none_put (by assumption)))) | (refine AH.le_putM ?_ (by first | assumption | exact (AH.mp_putM_ne _ _ (by assumption)).trans (by assumption) | (simp only [AH.mp_put, AH.mp_setTok] at *; assumption)))))⟩
    · have e1 : ddP xs (k + (m + 1)) = ddP xs (k + m) ++ [xs.getD (k + m) (0, 0)] := by
        rw [← Nat.add_assoc, ddP, if_neg (fun hh => hne (by rw [show k + m - 1 = k + (m - 1) by omega] at hh; exact hh.2))]
      have hset : ((prs B ++ rest).set (K * 2) (I (xs.getD (k + m) (0, 0)).1)).set (K * 2 + 1) (I (xs.getD (k + m) (0, 0)).2) = prs (B.set K (xs.getD (k + m) (0, 0))) ++ rest := by
        rw [List.set_append_left _ _ (by rw [prs_len]; omega), List.set_append_left _ _ (by rw [List.length_set, prs_len]; omega), prs_set]
      have hK2 : K * 2 + 2 ≤ (prs B ++ rest).length := by rw [hlen]; omega
      have hstep : (1 ≤ m + 1 ∧ m + 1 ≤ xs.length - k ∧ (B.set K (xs.getD (k + m) (0, 0))).length = xs.length ∧ (∀ j, k + (m + 1) - 1 ≤ j → j < xs.length → (B.set K (xs.getD (k + m) (0, 0))).getD j (0, 0) = xs.getD j (0, 0)) ∧ ddP xs (k + (m + 1)) = (B.set K (xs.getD (k + m) (0, 0))).take (K + 1) ∧ K + 1 ≤ k + (m + 1) - 1) := by
        refine ⟨by omega, by omega, by simp only [List.length_set]; exact p3, fun j h1 h2 => ?_, ?_, by omega⟩
        · have : (B.set K (xs.getD (k + m) (0, 0))).getD j (0, 0) = B.getD j (0, 0) := by
            simp only [List.getD, List.getElem?_set]
            rw [if_neg (by omega)]
          rw [this]
          exact p4 j (by omega) h2
        · rw [e1, p5]
          have hKB : K < B.length := by omega
          rw [List.take_add_one, List.getElem?_set_self hKB, List.take_set_of_le (Nat.le_refl _)]
          rfl
      by_cases hn1 : (xs.getD (k + m) (0, 0)).1 = (xs.getD (k + (m - 1)) (0, 0)).1
      · have hn2 : ¬ (xs.getD (k + m) (0, 0)).2 = (xs.getD (k + (m - 1)) (0, 0)).2 := fun hh => hne (Prod.ext hn1 hh)
        simp only [hc1, hmm, hmr, hc2, ho2, ho3, hd2, hd3, decide_eq_true hn1, decide_eq_false hn2, Bool.true_and, Bool.false_and, Bool.and_self, hKc, hK2, F_slices_Compact_Arc, g_slices_Compact_Arc, go_sem, ↓tq_n, ↓tq_e, ↓tq_r, ↓bq_n, ↓bq_e, ↓bq_r, ↓rq_n, ↓rq_r, ↓rq_e]
        rw [hset]
        exact ⟨by rw [inR64]; omega, by rw [inR64]; omega, (m + 1, K + 1, B.set K (xs.getD (k + m) (0, 0))), hstep, by simp only; omega, (GStep.forget (by repeat' first | exact EnvLe.nil _ | refine EnvLe.cons (AV.le.of_eq rfl) ?_ | refine EnvLe.cons (AV.le.undef _) ?_ | refine EnvLe.cons AV.le.unk ?_) (by repeat' first | exact AH.le.refl _ | assumption | (refine AH.le_put ?_ (by first | assumption | exact (AH.blk_put_ne _ _ (by assumption)).trans (by assumption) | exact AH.none_put (by assumption) | exact AH.none_put (AH.none_put (by assumption)) | (simp only [AH.blk_setTok, AH.tok_put] at *; first | assumption | exact AH.none_put (by assumption)))) | (refine AH.le_setTok ?_ (by first | assumption | exact (AH.blk_put_ne _ _ (by assumption)).trans (by assumption) | exact AH.none_put (by assumption) | exact AH.none_put (AH.none_put (by assumption)) | (simp only [AH.blk_setTok, AH.tok_put] at *; first | assumption | exact AH.none_put (by assumption)))) | (refine AH.le_putM ?_ (by first | assumption | exact (AH.mp_putM_ne _ _ (by assumption)).trans (by assumption) | (simp only [AH.mp_put, AH.mp_setTok] at *; assumption)))))⟩
      · simp only [hc1, hmm, hmr, hc2, ho2, ho3, hd2, hd3, decide_eq_false hn1, Bool.true_and, Bool.false_and, Bool.and_self, hKc, hK2, F_slices_Compact_Arc, g_slices_Compact_Arc, go_sem, ↓tq_n, ↓tq_e, ↓tq_r, ↓bq_n, ↓bq_e, ↓bq_r, ↓rq_n, ↓rq_r, ↓rq_e]
        rw [hset]
        exact ⟨by rw [inR64]; omega, by rw [inR64]; omega, (m + 1, K + 1, B.set K (xs.getD (k + m) (0, 0))), hstep, by simp only; omega, (GStep.forget (by repeat' first | exact EnvLe.nil _ | refine EnvLe.cons (AV.le.of_eq rfl) ?_ | refine EnvLe.cons (AV.le.undef _) ?_ | refine EnvLe.cons AV.le.unk ?_) (by repeat' first | exact AH.le.refl _ | assumption | (refine AH.le_put ?_ (by first | assumption | exact (AH.blk_put_ne _ _ (by assumption)).trans (by assumption) | exact AH.none_put (by assumption) | exact AH.none_put (AH.none_put (by assumption)) | (simp only [AH.blk_setTok, AH.tok_put] at *; first | assumption | exact AH.none_put (by assumption)))) | (refine AH.le_setTok ?_ (by first | assumption | exact (AH.blk_put_ne _ _ (by assumption)).trans (by assumption) | exact AH.none_put (by assumption) | exact AH.none_put (AH.none_put (by assumption)) | (simp only [AH.blk_setTok, AH.tok_put] at *; first | assumption | exact AH.none_put (by assumption)))) | (refine AH.le_putM ?_ (by first | assumption | exact (AH.mp_putM_ne _ _ (by assumption)).trans (by assumption) | (simp only [AH.mp_put, AH.mp_setTok] at *; assumption)))))⟩
  have hm2 : m = xs.length - k := by omega
  have hmn : k + m = xs.length := by omega
  rw [hmn] at p5
  have hKq : K < q := by omega
  have hKl : (ddP xs xs.length).length = K := by rw [p5, List.length_take]; omega
  have hc1 : ¬ (m : Int) < ((xs.length - k : Nat) : Int) := by omega
  simp only [hc1, mslCut_lt hKq, hlen, Nat.sub_zero, F_slices_Compact_Arc, g_slices_Compact_Arc, go_sem, ↓tq_n, ↓tq_e, ↓tq_r, ↓bq_n, ↓bq_e, ↓bq_r, ↓rq_n, ↓rq_r, ↓rq_e]
  refine ⟨by omega, by omega, by omega, by omega, ?_⟩
  rw [← hKl]
  refine ⟨Nat.zero_le _, ?_⟩
  have hKx : (ddP xs xs.length).length ≤ xs.length := ddP_len xs xs.length
  have hfl : (List.replicate (xs.length - (ddP xs xs.length).length) [AV.int IntKind.i64 0, AV.int IntKind.i64 0]).flatten.length = (xs.length - (ddP xs xs.length).length) * 2 := by simp
  have htk : List.take ((ddP xs xs.length).length * 2) (spl (prs B ++ rest) ((ddP xs xs.length).length * 2) (List.replicate (xs.length - (ddP xs xs.length).length) [AV.int IntKind.i64 0, AV.int IntKind.i64 0]).flatten) = prs (ddP xs xs.length) := by
    rw [spl_eq _ _ _ (by rw [hfl, hlen]; omega), List.append_assoc, List.take_append_of_le_length (by rw [List.length_take, hlen]; omega), List.take_take, Nat.min_self, List.take_append_of_le_length (by rw [prs_len, p3]; omega), prs_take, hKl, ← p5]
  obtain ⟨r', h'', a1, a2, a3⟩ := hfix (H := h) (cap := some q) (n := (ddP xs xs.length).length) (ys := ddP xs xs.length) rfl htk
  refine ⟨r', h'', a1, a2, ?_⟩
  rw [a3]
  simp only [AH.put, AH.del, AH.mk.injEq, and_true]
  funext x
  by_cases hx : x = b <;> simp [hx]
end Go.Proofs.YtidmekdkfiljjaaGreat.P
namespace Go.Abs
open Go Go.Shelf Go.Proofs Go.RowKit Go.Sort
set_option linter.unusedSimpArgs false
set_option linter.unusedVariables false

abbrev T2 := Int × Int
def e2 (p : T2) : List Value := [.int .i64 p.1, .int .i64 p.2]
def f2 (ss : List T2) : List Value := ss.flatMap e2
theorem e2_len (x : T2) : (e2 x).length = 2 := rfl
theorem e2_one (x : T2) : ∀ v ∈ e2 x, v.oneCell' = true := by simp [e2, Value.oneCell']
theorem flat2_get {l : List T2} {t : Nat} (h : t < l.length * 2) : (flatK e2 2 l.toArray)[t]! = (e2 (l.getD (t / 2) (0, 0)))[t % 2]! := by
  rw [get_flatK _ _ _ _ (by simpa using h)]
  congr 2
  have : t / 2 < l.length := by omega
  simp [List.getD, this]
theorem prs_get {l : List T2} : ∀ {t : Nat}, t < l.length * 2 → ∃ n : Int, (prs l)[t]? = some (.int .i64 n) ∧ (e2 (l.getD (t / 2) (0, 0)))[t % 2]! = .int .i64 n ∧ ∃ x ∈ l, n = x.1 ∨ n = x.2 := by
  induction l with
  | nil => intro t h; simp at h
  | cons x l ih =>
    intro t h
    match t, h with
    | 0, _ => exact ⟨x.1, rfl, rfl, x, by simp, .inl rfl⟩
    | 1, _ => exact ⟨x.2, rfl, rfl, x, by simp, .inr rfl⟩
    | t + 2, h =>
      obtain ⟨n, h1, h2, y, h3, h4⟩ := ih (t := t) (by simp only [List.length_cons] at h; omega)
      refine ⟨n, ?_, ?_, y, by simp [h3], h4⟩
      · have : prs (x :: l) = .int .i64 x.1 :: .int .i64 x.2 :: prs l := rfl
        rw [this]
        simpa using h1
      · rw [show (t + 2) / 2 = t / 2 + 1 by omega, show (t + 2) % 2 = t % 2 by omega]
        simpa using h2
theorem prs_mem {l : List T2} {x : T2} (h : x ∈ l) : ∃ j, j + 1 < l.length * 2 ∧ (prs l)[j]? = some (.int .i64 x.1) ∧ (prs l)[j + 1]? = some (.int .i64 x.2) := by
  induction l with
  | nil => cases h
  | cons y l ih =>
    have e : prs (y :: l) = .int .i64 y.1 :: .int .i64 y.2 :: prs l := rfl
    rw [e]
    rcases List.mem_cons.1 h with rfl | h
    · exact ⟨0, by simp only [List.length_cons]; omega, rfl, rfl⟩
    · obtain ⟨j, h1, h2, h3⟩ := ih h
      exact ⟨j + 2, by simp only [List.length_cons]; omega, by simpa using h2, by simpa using h3⟩
/-- Pairs in the order of a comparison. -/
def sP (cf : T2 → T2 → Int) (l : List T2) : List T2 := l.mergeSort fun x y => !(ltOf cf) y x
theorem sP_perm (cf : T2 → T2 → Int) (l : List T2) : (sP cf l).Perm l := List.mergeSort_perm _ _
theorem sP_len (cf : T2 → T2 → Int) (l : List T2) : (sP cf l).length = l.length := (sP_perm cf l).length_eq

theorem s_sortf2 {P : Program} {ρ : Ren} (Ly : SlLaysF0.n6 P ρ) (aE : ∀ w, (isAgg (ρ.t 24)).run P w = .ok true w) (zE : ∀ w, (Go.sizeOf (ρ.t 24)).run P w = .ok 2 w) (cf : T2 → T2 → Int) (hO : SWO (ltOf cf)) (hT : ∀ x y, (ltOf cf) x y = false → (ltOf cf) y x = false → x = y) (g : Nat)
    (eg : ∀ args w, (callFunc g args).run P w = .ok (.enter g args) w)
    (hcmp : ∀ (x y : T2) (W : World), Calls P g #[.agg (e2 x).toArray, .agg (e2 y).toArray] W fun e w' => e = .returned (.int .i64 (cf x y)) ∧ ∃ q os', w' = grow (W.drewN q) os')
    {h : AH} {b n : Nat} {cap : Option Nat} {zs : List T2} {rest : List AV} (hb : h.blk b = some (prs zs ++ rest)) (hn : n = zs.length) (hsz : zs.length < 4611686018427387904) (hok : callOK P (ρ.f 6) = true) :
    ACalls P (ρ.f 6) [.msl b 0 n cap, .fn g []] h fun r h' => r = .tup [] ∧ h' = h.put b (prs (sP cf zs) ++ rest) := by
  subst hn
  refine ⟨hok, fun s vs w hv hs => ?_⟩
  obtain ⟨v, hv0, hr⟩ := hv.at_ (j := 0) rfl
  obtain ⟨u, hu0, hru⟩ := hv.at_ (j := 1) rfl
  have hvs : vs = [v, u] := by
    match vs, hv.1, hv0, hu0 with
    | [a, b], _, h, k => simp at h k; rw [h, k]
  subst hvs
  obtain ⟨fs, rfl, hfs⟩ := hru.fn_inv
  have hfs0 : fs = [] := List.eq_nil_of_length_eq_zero (by simpa using hfs.1)
  subst hfs0
  obtain ⟨c, k, rfl, hc, hnk, hmax, hq⟩ := hr.msl_inv
  obtain ⟨c', ws, e, a1, a2, a3, a4, a5, a6⟩ := hs.blk b _ hb
  rw [hc] at a1; cases a1
  have hpl : (prs zs).length = zs.length * 2 := prs_len zs
  have hcell : ∀ j, j < zs.length * 2 → ws[j]? = some ((e2 (zs.getD (j / 2) (0, 0)))[j % 2]!) := by
    intro j hj
    obtain ⟨m, m1, m2, _⟩ := prs_get (l := zs) hj
    obtain ⟨u, u1, u2, u3⟩ := a4 j (.int .i64 m) (by rw [List.getElem?_append_left (by rw [hpl]; exact hj)]; exact m1)
    obtain ⟨rfl, _⟩ := u3.int_inv
    rw [u1, m2]
  have hH : HoldsK e2 2 w c 0 zs.toArray := by
    intro j hj
    have hj' : j < zs.length * 2 := by simpa using hj
    refine ⟨?_, ?_⟩
    · have : w.cell? ⟨c, 0 + j, none⟩ = ws[j]? := by
        rw [Nat.zero_add]
        simp [World.cell?, a2]
      rw [this, hcell j hj', flat2_get hj']
      rfl
    · simp [World.frozen?, a2]
  have hlt : c < w.heap.size := (Array.getElem?_eq_some_iff.1 a2).1
  have key := AnyQ.slices_SortFunc_total Ly 2 aE zE e2 e2_len e2_one cf hO g #[] c 0 k zs.toArray w eg (fun m os dk _ x y => hcmp x y _) hH hlt (by simpa using hsz) hT
  refine Calls.mono (by simpa using key) fun en w' hen => ?_
  obtain ⟨rfl, n, os, rfl⟩ := hen
  obtain ⟨us, hus⟩ : ∃ us, us = Sort.putCells id 0 (flatK e2 2 (sP cf zs).toArray) ws := ⟨_, rfl⟩
  have hsz2 : us.size = ws.size := by rw [hus]; simp [Sort.putCells]
  have hget : ∀ j, us[j]? = (ws[j]?).map fun x => if j < (sP cf zs).length * 2 then (e2 ((sP cf zs).getD (j / 2) (0, 0)))[j % 2]! else x := by
    intro j
    rw [hus]
    simp only [Sort.putCells, Array.getElem?_mapIdx, Nat.zero_le, true_and, Nat.zero_add, Nat.sub_zero, size_flatK, List.size_toArray]
    congr 1
    funext x
    split
    · rename_i hj; exact flat2_get hj
    · rfl
  have hinr : ∀ x ∈ zs, InR .i64 x.1 ∧ InR .i64 x.2 := by
    intro x hx
    obtain ⟨j, j1, j2, j3⟩ := prs_mem hx
    obtain ⟨u1, _, _, v1⟩ := a4 j _ (by rw [List.getElem?_append_left (by rw [hpl]; omega)]; exact j2)
    obtain ⟨u2, _, _, v2⟩ := a4 (j + 1) _ (by rw [List.getElem?_append_left (by rw [hpl]; omega)]; exact j3)
    exact ⟨v1.int_inv.2, v2.int_inv.2⟩
  have l1 := hs.setBlk (us := us) hb hc a2 (cells' := prs (sP cf zs) ++ rest)
    (by
      rw [hsz2]
      simp only [List.length_append, prs_len, sP_len] at a3 ⊢
      exact a3)
    (fun j x hx => by
      rw [hget]
      by_cases hj : j < (sP cf zs).length * 2
      · have hjz : j < zs.length * 2 := by rw [← sP_len cf zs]; exact hj
        rw [List.getElem?_append_left (by rw [prs_len]; exact hj)] at hx
        obtain ⟨m, m1, m2, y, m3, m4⟩ := prs_get (l := sP cf zs) hj
        rw [m1] at hx
        cases hx
        rw [hcell j hjz]
        refine ⟨_, rfl, ?_, ?_⟩
        · simp only [if_pos hj]; rw [m2]; rfl
        · simp only [if_pos hj]
          rw [m2]
          have := hinr y ((sP_perm cf zs).mem_iff.1 m3)
          refine .int .i64 _ ?_
          rcases m4 with rfl | rfl
          · exact this.1
          · exact this.2
      · have hx2 : (prs zs ++ rest)[j]? = some x := by
          have hjz : ¬ j < zs.length * 2 := by rw [← sP_len cf zs]; exact hj
          rw [List.getElem?_append_right (by rw [prs_len]; omega)] at hx
          rw [List.getElem?_append_right (by rw [prs_len]; omega)]
          rw [prs_len] at hx ⊢
          rw [sP_len] at hx
          exact hx
        obtain ⟨u, u1, u2, u3⟩ := a4 j x hx2
        rw [u1]
        refine ⟨u, ?_, u2, u3⟩
        simp only [Option.map_some]
        rw [if_neg hj])
  refine ⟨s, .tup [], _, _, Sg.le.refl s, (l1.draw (w.drawn + n)).later ?_, rfl, .tup [] [] rfl (by simp), rfl, rfl⟩
  have hset : (w.setRow c us).heap = w.heap.modify c (Sort.onCells (Sort.putCells id 0 (flatK e2 2 (sP cf zs).toArray))) := by
    unfold World.setRow
    apply Array.ext
    · simp
    · intro i h1 h2
      simp only [Array.getElem_modify]
      split
      · rename_i hci
        subst hci
        have : w.heap[c] = .cells ws e (0, 0) := by
          rw [Array.getElem?_eq_getElem hlt] at a2; exact Option.some.inj a2
        simp [this, Sort.onCells, hus]
      · rfl
  refine ⟨fun k hk => ?_, ?_, rfl, rfl, rfl⟩
  · have hk2 : k < (w.setRow c us).heap.size := hk
    show ((w.heap.modify c (Sort.onCells (Sort.putCells id 0 (flatK e2 2 (sP cf zs).toArray)))) ++ os)[k]? = _
    rw [hset] at hk2
    rw [Array.getElem?_append_left hk2]
    show _ = (w.setRow c us).heap[k]?
    rw [hset]
  · show (w.setRow c us).heap.size ≤ ((w.heap.modify c (Sort.onCells (Sort.putCells id 0 (flatK e2 2 (sP cf zs).toArray)))) ++ os).size
    rw [hset]
    simp
theorem s_sortf2_nil {P : Program} {ρ : Ren} (Ly : SlLaysF0.n6 P ρ) (g : Nat) (nl : Bool) (tl : Tail) (h : AH) (hok : callOK P (ρ.f 6) = true) :
    ACalls P (ρ.f 6) [.sl nl 0 [] tl, .fn g []] h fun r h' => r = .tup [] ∧ h' = h := by
  refine ⟨hok, fun s vs w hv hs => ?_⟩
  obtain ⟨v, hv0, hr⟩ := hv.at_ (j := 0) rfl
  obtain ⟨u, hu0, hru⟩ := hv.at_ (j := 1) rfl
  have hvs : vs = [v, u] := by
    match vs, hv.1, hv0, hu0 with
    | [a, b], _, h, k => simp at h k; rw [h, k]
  subst hvs
  obtain ⟨fs, rfl, hfs⟩ := hru.fn_inv
  obtain ⟨a, cap, ws, rfl, _⟩ := hr.sl_inv
  refine (AnyF.slices_SortFunc_none Ly a cap (.func (.func g) #[] fs.toArray) w).mono fun en w' hen => ?_
  obtain ⟨rfl, rfl⟩ := hen
  exact ⟨s, .tup [], _, h, Sg.le.refl s, hs, rfl, .tup [] [] rfl (by simp), rfl, rfl⟩
end Go.Abs
namespace Go.Proofs.YtidmekdkfiljjaaGreat.P
open Go Go.Proofs Go.Shelf Go.Lib Go.Sort Go.RowKit
set_option maxRecDepth 100000
set_option linter.unusedSimpArgs false

theorem c_isNaN (x : Int) (w : World) : Calls Tryz.prog 71 #[.int .i64 x] w fun e w' => e = .returned (.bool false) ∧ w' = w := by
  go_enter Tryz.func71, Tryz.ntmps71
  go_wp2
  go_ret
  exact ⟨by simp, rfl⟩
set_option maxHeartbeats 1000000 in
theorem c_Compare (x y : Int) (w : World) : Calls Tryz.prog 49 #[.int .i64 x, .int .i64 y] w fun e w' => e = .returned (.int .i64 (Lib.compareInt x y)) ∧ w' = w := by
  go_enter Tryz.func49, Tryz.ntmps49
  go_wp2_with (go_at_call 71; refine (c_isNaN _ _).mono ?_; rintro e w' ⟨rfl, hw⟩; rw [hw])
  all_goals (go_ret; refine ⟨?_, rfl⟩; unfold Lib.compareInt; (repeat' split) <;> first | rfl | (exfalso; omega))
/-- The first of two numbers that is not 0. -/
def or2 (a b : Int) : Int := if a ≠ 0 then a else b
set_option maxHeartbeats 2000000 in
theorem c_Or (a b : Int) (B k : Nat) (W : World) (ha : W.cell? ⟨B, 0, none⟩ = some (.int .i64 a)) (hb : W.cell? ⟨B, 1, none⟩ = some (.int .i64 b)) :
    Calls Tryz.prog 48 #[.slice (some ⟨B, 0, none⟩) 2 k] W fun e W' => e = .returned (.int .i64 (or2 a b)) ∧ W' = W := by
  go_enter Tryz.func48, Tryz.ntmps48
  go_wp2
  go_loop [8] (fun i => ∃ j : Nat, j ≤ 2 ∧ i = .int .i64 j ∧ (0 < j → a = 0) ∧ (1 < j → b = 0)) (fun i => 2 - (intOf i).toNat)
  case atStart => exact ⟨0, by omega, rfl, by omega, by omega⟩
  case round =>
    obtain ⟨j, hj, rfl, h1, h2⟩ := hrel
    have e3 : j = 0 ∨ j = 1 ∨ j = 2 := by omega
    rcases e3 with rfl | rfl | rfl
    · by_cases ha0 : a = 0
      · subst ha0
        go_wp2
        go_round
        case rel => exact ⟨1, by omega, rfl, fun _ => trivial, by omega⟩
        case measure => simp [intOf]
      · have hb1 : (a != 0) = true := by simp [ha0]
        go_wp2
        go_ret
        exact ⟨by simp [or2, ha0], rfl⟩
    · have ha0 := h1 (by omega)
      by_cases hb0 : b = 0
      · subst hb0
        go_wp2
        go_round
        case rel => exact ⟨2, by omega, rfl, fun _ => ha0, fun _ => trivial⟩
        case measure => simp [intOf]
      · have hb1 : (b != 0) = true := by simp [hb0]
        go_wp2
        go_ret
        exact ⟨by simp [or2, ha0, hb0], rfl⟩
    · have ha0 := h1 (by omega)
      have hb0 := h2 (by omega)
      go_wp2
      go_ret
      exact ⟨by simp [or2, ha0, hb0], rfl⟩
def Hid (p : Prop) : Prop := p
theorem al_new (w : World) (o : Obj) : (w.alloc o).heap[w.heap.size]? = some o := by show (w.heap.push o)[w.heap.size]? = _; simp
theorem al_old (w : World) (o : Obj) (k : Nat) (h : k < w.heap.size) : (w.alloc o).heap[k]? = w.heap[k]? := by show (w.heap.push o)[k]? = _; rw [Array.getElem?_push, if_neg (by omega)]
theorem al_size (w : World) (o : Obj) : (w.alloc o).heap.size = w.heap.size + 1 := by show (w.heap.push o).size = _; simp
theorem cell_at {w : World} {b : Nat} {c : Array Value} {t : TypeId} {f : Nat × Nat} (h : w.heap[b]? = some (.cells c t f)) (o : Nat) : w.cell? ⟨b, o, none⟩ = c[o]? := by
  show (match w.heap[b]? with | some (.cells c _ _) => if false then none else c[o]? | _ => none) = _
  rw [h]; rfl
set_option maxHeartbeats 1000000 in
theorem c_47 (x y : Int × Int) (W : World) : Calls Tryz.prog 47 #[.agg #[.int .i64 x.1, .int .i64 x.2], .agg #[.int .i64 y.1, .int .i64 y.2]] W fun e w' => e = .returned (.int .i64 (or2 (Lib.compareInt x.1 y.1) (Lib.compareInt x.2 y.2))) ∧ ∃ q os', w' = grow (W.drewN q) os' := by
  go_enter Tryz.func47, Tryz.ntmps47
  have hor := c_Or (Lib.compareInt x.1 y.1) (Lib.compareInt x.2 y.2)
  have hcmp := c_Compare
  go_wp2
  obtain ⟨W1, hW1⟩ : ∃ W1, (W.alloc (.cells #[.int .i64 x.1, .int .i64 x.2] 43)).alloc (.cells #[.int .i64 y.1, .int .i64 y.2] 43) = W1 := ⟨_, rfl⟩
  have hA : W1.heap[W.heap.size]? = some (.cells #[.int .i64 x.1, .int .i64 x.2] 43 (0, 0)) := by
    rw [← hW1]; exact (al_old _ _ _ (by rw [al_size]; omega)).trans (al_new W _)
  have hB : W1.heap[W.heap.size + 1]? = some (.cells #[.int .i64 y.1, .int .i64 y.2] 43 (0, 0)) := by
    rw [← hW1]; have := al_new (W.alloc (.cells #[.int .i64 x.1, .int .i64 x.2] 43)) (.cells #[.int .i64 y.1, .int .i64 y.2] 43); rwa [al_size] at this
  have hgrow : W1 = grow W #[.cells #[.int .i64 x.1, .int .i64 x.2] 43 (0, 0), .cells #[.int .i64 y.1, .int .i64 y.2] 43 (0, 0)] := by rw [← hW1, alloc_eq_grow, alloc_eq_grow, grow_grow]; rfl
  change Code.wp Tryz.prog _ _ _ ((W.alloc (.cells #[.int .i64 x.1, .int .i64 x.2] 43)).alloc (.cells #[.int .i64 y.1, .int .i64 y.2] 43))
  rw [hW1]
  refine wp_region_still_tail 10 (by kernel_rfl) (by kernel_rfl) ?_
  simp only [List.take_succ_cons, List.take_zero, List.drop_succ_cons, List.drop_zero]
  change wpStill _ _ W1.drew _ _ _
  obtain ⟨W2, hW2⟩ : ∃ W2, W1.drew = W2 := ⟨_, rfl⟩
  have hA2 : W2.heap[W.heap.size]? = some (.cells #[.int .i64 x.1, .int .i64 x.2] 43 (0, 0)) := by rw [← hW2]; exact hA
  have hB2 : W2.heap[W.heap.size + 1]? = some (.cells #[.int .i64 y.1, .int .i64 y.2] 43 (0, 0)) := by rw [← hW2]; exact hB
  have a0 := cell_at hA2 0
  have a1 := cell_at hA2 1
  have b0 := cell_at hB2 0
  have b1 := cell_at hB2 1
  simp at a0 a1 b0 b1
  rw [hW2]
  still_step
  still_step
  still_step
  still_step
  still_call (hcmp _ _ _)
  still_step
  still_step
  still_step
  still_step
  still_call (hcmp _ _ _)
  refine wpStill_nil ?_
  change wpList _ _ _ _ _ W1.drew
  rw [hW2]
  have hC := al_new W2 (.cells #[.int .i64 (Lib.compareInt x.1 y.1), .int .i64 (Lib.compareInt x.2 y.2)] 3)
  have hor' := fun k => hor W2.heap.size k (W2.alloc (.cells #[.int .i64 (Lib.compareInt x.1 y.1), .int .i64 (Lib.compareInt x.2 y.2)] 3)) (cell_at hC 0) (cell_at hC 1)
  have hfin : Hid (W2.alloc (.cells #[.int .i64 (Lib.compareInt x.1 y.1), .int .i64 (Lib.compareInt x.2 y.2)] 3) = grow (W.drewN 1) #[.cells #[.int .i64 x.1, .int .i64 x.2] 43 (0, 0), .cells #[.int .i64 y.1, .int .i64 y.2] 43 (0, 0), .cells #[.int .i64 (Lib.compareInt x.1 y.1), .int .i64 (Lib.compareInt x.2 y.2)] 3 (0, 0)]) := by
    unfold Hid
    rw [← hW2, hgrow, alloc_eq_grow]
    show grow (grow W.drew _) _ = _
    rw [grow_grow]
    rfl
  obtain ⟨r, hr⟩ : ∃ r, or2 (Lib.compareInt x.1 y.1) (Lib.compareInt x.2 y.2) = r := ⟨_, rfl⟩
  rw [hr] at hor'
  replace hr : Hid (or2 (Lib.compareInt x.1 y.1) (Lib.compareInt x.2 y.2) = r) := hr
  clear hor hcmp hA hB hA2 hB2 a0 a1 b0 b1 hC hgrow hW2 hW1 W1
  generalize Lib.compareInt x.1 y.1 = r1 at hor' hfin ⊢
  generalize Lib.compareInt x.2 y.2 = r2 at hor' hfin ⊢
  go_wp2_with (go_at_call 48; refine (hor' _).mono ?_; rintro e w' ⟨rfl, rfl⟩)
  go_ret
  refine ⟨?_, 1, _, hfin⟩
  simp
  exact Eq.symm hr
end Go.Proofs.YtidmekdkfiljjaaGreat.P
namespace Go.Proofs.YtidmekdkfiljjaaGreat.P
open Go Go.Abs Go.Shelf Go.Proofs Go.Sort
set_option maxRecDepth 100000
def rsF : Nat → Nat
  | 6 => 46
  | 14 => 69
  | 15 => 70
  | 20 => 76
  | 21 => 77
  | 22 => 78
  | 23 => 79
  | 24 => 80
  | 25 => 81
  | 26 => 82
  | 27 => 83
  | 28 => 84
  | 29 => 85
  | 46 => 95
  | 47 => 96
  | 48 => 97
  | 49 => 98
  | 50 => 99
  | 57 => 103
  | _ => 0
def rsT : Nat → Nat
  | 0 => 0
  | 3 => 3
  | 4 => 4
  | 5 => 5
  | 9 => 9
  | 22 => 26
  | 24 => 43
  | 25 => 90
  | 39 => 108
  | 45 => 115
  | 46 => 116
  | 50 => 120
  | 53 => 63
  | 55 => 124
  | 66 => 131
  | 70 => 135
  | 76 => 139
  | 77 => 112
  | _ => 0
def rs : Ren := ⟨rsF, rsT, fun x => x⟩
theorem sfLays : SlLaysF0.n6 Tryz.prog rs where
  mixed := by kernel_rfl
  f6 := ⟨ "slices.SortFunc[[]coinage/api.Arc,coinage/api.Arc]", by decide, by kernel_rfl⟩
  f14 := ⟨ "slices.pdqsortCmpFunc[coinage/api.Arc]", by decide, by kernel_rfl⟩
  f15 := by kernel_rfl
  f20 := ⟨ "slices.insertionSortCmpFunc[coinage/api.Arc]", by decide, by kernel_rfl⟩
  f21 := ⟨ "slices.heapSortCmpFunc[coinage/api.Arc]", by decide, by kernel_rfl⟩
  f22 := ⟨ "slices.breakPatternsCmpFunc[coinage/api.Arc]", by decide, by kernel_rfl⟩
  f23 := ⟨ "slices.choosePivotCmpFunc[coinage/api.Arc]", by decide, by kernel_rfl⟩
  f24 := ⟨ "slices.reverseRangeCmpFunc[coinage/api.Arc]", by decide, by kernel_rfl⟩
  f25 := ⟨ "slices.partialInsertionSortCmpFunc[coinage/api.Arc]", by decide, by kernel_rfl⟩
  f26 := ⟨ "slices.partitionEqualCmpFunc[coinage/api.Arc]", by decide, by kernel_rfl⟩
  f27 := ⟨ "slices.partitionCmpFunc[coinage/api.Arc]", by decide, by kernel_rfl⟩
  f28 := by kernel_rfl
  f29 := by kernel_rfl
  f46 := ⟨ "slices.siftDownCmpFunc[coinage/api.Arc]", by decide, by kernel_rfl⟩
  f47 := by kernel_rfl
  f48 := by kernel_rfl
  f49 := ⟨ "slices.medianAdjacentCmpFunc[coinage/api.Arc]", by decide, by kernel_rfl⟩
  f50 := ⟨ "slices.medianCmpFunc[coinage/api.Arc]", by decide, by kernel_rfl⟩
  f57 := ⟨ "slices.order2CmpFunc[coinage/api.Arc]", by decide, by kernel_rfl⟩
  t0 := Tryz.underlying0
  a0 := Tryz.isAgg0
  z0 := Tryz.sizeOf0
  v0 := Tryz.zeroValue0
  t3 := Tryz.underlying3
  a3 := Tryz.isAgg3
  z3 := Tryz.sizeOf3
  v3 := Tryz.zeroValue3
  t4 := Tryz.underlying4
  a4 := Tryz.isAgg4
  z4 := Tryz.sizeOf4
  v4 := Tryz.zeroValue4
  t5 := Tryz.underlying5
  a5 := Tryz.isAgg5
  z5 := Tryz.sizeOf5
  v5 := Tryz.zeroValue5
  t9 := Tryz.underlying9
  a9 := Tryz.isAgg9
  z9 := Tryz.sizeOf9
  v9 := Tryz.zeroValue9
  t22 := Tryz.underlying26
  a22 := Tryz.isAgg26
  z22 := Tryz.sizeOf26
  v22 := Tryz.zeroValue26
  t25 := Tryz.underlying90
  a25 := Tryz.isAgg90
  z25 := Tryz.sizeOf90
  v25 := Tryz.zeroValue90
  t39 := Tryz.underlying108
  a39 := Tryz.isAgg108
  z39 := Tryz.sizeOf108
  v39 := Tryz.zeroValue108
  t45 := Tryz.underlying115
  a45 := Tryz.isAgg115
  z45 := Tryz.sizeOf115
  v45 := Tryz.zeroValue115
  t46 := Tryz.underlying116
  a46 := Tryz.isAgg116
  z46 := Tryz.sizeOf116
  v46 := Tryz.zeroValue116
  t50 := Tryz.underlying120
  a50 := Tryz.isAgg120
  z50 := Tryz.sizeOf120
  v50 := Tryz.zeroValue120
  t53 := Tryz.underlying63
  a53 := Tryz.isAgg63
  z53 := Tryz.sizeOf63
  v53 := Tryz.zeroValue63
  t55 := Tryz.underlying124
  a55 := Tryz.isAgg124
  z55 := Tryz.sizeOf124
  v55 := Tryz.zeroValue124
  t66 := Tryz.underlying131
  a66 := Tryz.isAgg131
  z66 := Tryz.sizeOf131
  v66 := Tryz.zeroValue131
  t70 := Tryz.underlying135
  a70 := Tryz.isAgg135
  z70 := Tryz.sizeOf135
  v70 := Tryz.zeroValue135
  t76 := Tryz.underlying139
  a76 := Tryz.isAgg139
  z76 := Tryz.sizeOf139
  v76 := Tryz.zeroValue139
  t77 := Tryz.underlying112
  a77 := Tryz.isAgg112
  z77 := Tryz.sizeOf112
  v77 := Tryz.zeroValue112
end Go.Proofs.YtidmekdkfiljjaaGreat.P
namespace Go.Proofs.YtidmekdkfiljjaaGreat.P
open Go Go.Abs Go.Shelf Go.Proofs Go.Sort
set_option maxRecDepth 100000
set_option linter.unusedSimpArgs false
set_option linter.unusedVariables false
/-- The order of the closures. -/
def cf2 (a b : Int × Int) : Int := or2 (Lib.compareInt a.1 b.1) (Lib.compareInt a.2 b.2)
theorem cf2_lt (a b : Int × Int) : cf2 a b < 0 ↔ Lx a b := by
  unfold cf2 or2 Lib.compareInt Lx
  repeat' split
  all_goals omega
theorem lt2_iff (a b : Int × Int) : ltOf cf2 a b = true ↔ Lx a b := by
  unfold ltOf
  rw [decide_eq_true_eq, cf2_lt]
theorem lt2_swo : SWO (ltOf cf2) where
  irrefl x := by rw [Bool.eq_false_iff]; intro h; rw [lt2_iff] at h; exact Lx.irr h
  trans x y z h1 h2 := by rw [lt2_iff] at *; exact h1.trans h2
  ntrans x y z h1 h2 := by
    rw [Bool.eq_false_iff] at *
    intro h
    rw [ne_eq, lt2_iff] at h1 h2
    rw [lt2_iff] at h
    unfold Lx at *
    omega
theorem lt2_anti (x y : Int × Int) (h1 : ltOf cf2 x y = false) (h2 : ltOf cf2 y x = false) : x = y := by
  rw [Bool.eq_false_iff, ne_eq, lt2_iff] at h1 h2
  obtain ⟨a1, a2⟩ := x
  obtain ⟨b1, b2⟩ := y
  unfold Lx at h1 h2
  simp only at h1 h2
  simp only [Prod.mk.injEq]
  omega
theorem s_slices_SortFunc_Arc {h : AH} {b n : Nat} {cap : Option Nat} {zs : List (Int × Int)} {rest : List AV} (hb : h.blk b = some (prs zs ++ rest)) (hn : n = zs.length) (hsz : zs.length < 4611686018427387904) :
    ACalls Tryz.prog 46 [.msl b 0 n cap, .fn 47 []] h fun r h' => r = .tup [] ∧ h' = h.put b (prs (sP cf2 zs) ++ rest) :=
  s_sortf2 sfLays Tryz.isAgg43 Tryz.sizeOf43 cf2 lt2_swo lt2_anti 47 (enters_of Tryz.func47 (by kernel_rfl) rfl) (fun x y W => c_47 x y W) hb hn hsz (by kernel_rfl)
theorem s_slices_SortFunc_Arc0 (nl : Bool) (tl : Tail) (h : AH) : ACalls Tryz.prog 46 [.sl nl 0 [] tl, .fn 47 []] h fun r h' => r = .tup [] ∧ h' = h := s_sortf2_nil sfLays 47 nl tl h (by kernel_rfl)
end Go.Proofs.YtidmekdkfiljjaaGreat.P
