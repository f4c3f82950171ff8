/- Ledgers as lists: calls without error may be made in any order. No condition. -/
import Derived.Test.YtcnmodnafnadlaaD7
import Derived.Test.YtcnmodnafnadlaaC5
import Derived.Test.YtcnmodnafnadlaaA23
import Derived.Test.YtcnmodnafnadlaaB1
import Derived.Shelf.SlMaps.Clone
import Derived.Test.YtcnmodnafnadlaaProg
import Derived.Laws.IdiomRangeMap
import Derived.Maps.OwnOps
import Derived.Test.YtcnmodnafnadlaaQ8
import Derived.Test.YtcnmodnafnadlaaC6
import Derived.Test.YtcnmodnafnadlaaE0
import Derived.Test.YtcnmodnafnadlaaD4
namespace Go.Proofs.Ytcnmodnafnadlaa
open Go Go.Abs
set_option linter.unusedSimpArgs false
set_option linter.unusedVariables false
set_option maxRecDepth 20000

/-- What a call without error does. -/
structure Goes (t : St) (o : Op) (u : St) : Prop where
  m1 : ∀ d, d ∈ u.1 ↔ d ∈ t.1 ∨ (o.back = false ∧ d = o.d)
  m2 : ∀ m, m ∈ u.2 ↔ m ∈ t.2 ∨ (o.back = true ∧ m = o.m)
theorem mk_goes {M : List Dec} {d : Dec} (h : (mkL M d).1 = 0) : dcOK d ∧ ∀ x, x ∈ (mkL M d).2 ↔ x ∈ M ∨ x = d := by
  unfold mkL at *
  by_cases c : dcOK d
  case neg => rw [if_neg c] at h; cases h
  rw [if_pos c] at h ⊢
  refine ⟨c, fun x => ?_⟩
  cases ho : M.find? fun x => decide (d.mk2 = x.mk2) with
  | some o =>
    rw [ho] at h
    simp only at h ⊢
    by_cases e : o = d
    · rw [if_pos e]
      have := (find_some ho).1
      rw [e] at this
      exact ⟨.inl, fun hh => hh.elim id fun e2 => by rw [e2]; exact this⟩
    · rw [if_neg e] at h; cases h
  | none =>
    rw [ho] at h
    simp only at h ⊢
    by_cases e : 200 ≤ M.length
    · rw [if_pos e] at h; cases h
    · rw [if_neg e]; simp
theorem wd_goes {W : List (Int × Int)} {m : Int × Int} (h : (wdL W m).1 = 0) : mkOK m ∧ ∀ x, x ∈ (wdL W m).2 ↔ x ∈ W ∨ x = m := by
  unfold wdL at *
  by_cases c : mkOK m
  case neg => rw [if_neg c] at h; cases h
  rw [if_pos c] at h ⊢
  refine ⟨c, fun x => ?_⟩
  by_cases e : m ∈ W
  · rw [if_pos e]
    exact ⟨.inl, fun hh => hh.elim id fun e2 => by rw [e2]; exact e⟩
  · rw [if_neg e] at h ⊢
    by_cases e2 : 200 ≤ W.length
    · rw [if_pos e2] at h; cases h
    · rw [if_neg e2]; simp
def opOK (o : Op) : Prop := (o.back = false → dcOK o.d) ∧ (o.back = true → mkOK o.m)
theorem do_goes {t : St} {o : Op} (h : (doA t o).1 = 0) : opOK o ∧ Goes t o (doA t o).2 := by
  obtain ⟨back, d, m⟩ := o
  unfold doA at *
  cases back with
  | true =>
    simp only [if_true] at h ⊢
    have := wd_goes h
    exact ⟨⟨fun hh => (by cases hh), fun _ => this.1⟩, ⟨fun x => by simp, fun x => by rw [this.2]; simp⟩⟩
  | false =>
    simp only [Bool.false_eq_true, if_false] at h ⊢
    have := mk_goes h
    exact ⟨⟨fun _ => this.1, fun hh => (by cases hh)⟩, ⟨fun x => by rw [this.2]; simp, fun x => by simp⟩⟩
/-- What lies in a ledger after calls without error. -/
theorem fine_mem (l : List Op) : ∀ {s : St}, fineA s l = true → (∀ o ∈ l, opOK o) ∧ (∀ d, d ∈ (runA s l).1 ↔ d ∈ s.1 ∨ ∃ o ∈ l, o.back = false ∧ d = o.d) ∧ (∀ m, m ∈ (runA s l).2 ↔ m ∈ s.2 ∨ ∃ o ∈ l, o.back = true ∧ m = o.m) := by
  induction l with
  | nil => intro s _; refine ⟨fun o h => (by cases h), fun d => by simp [runA], fun m => by simp [runA]⟩
  | cons o l ih =>
    intro s h
    obtain ⟨h1, h2⟩ := Bool.and_eq_true_iff.1 h
    obtain ⟨k1, k2⟩ := do_goes (of_decide_eq_true h1)
    obtain ⟨a1, a2, a3⟩ := ih h2
    have e : runA s (o :: l) = runA (doA s o).2 l := rfl
    rw [e]
    refine ⟨fun x hx => ?_, fun d => ?_, fun m => ?_⟩
    · rcases List.mem_cons.1 hx with rfl | hx
      · exact k1
      · exact a1 x hx
    · rw [a2, k2.m1]
      constructor
      · rintro ((c | c) | ⟨x, c1, c2⟩)
        · exact .inl c
        · exact .inr ⟨o, by simp, c⟩
        · exact .inr ⟨x, by simp [c1], c2⟩
      · rintro (c | ⟨x, c1, c2⟩)
        · exact .inl (.inl c)
        · rcases List.mem_cons.1 c1 with rfl | c1
          · exact .inl (.inr c2)
          · exact .inr ⟨x, c1, c2⟩
    · rw [a3, k2.m2]
      constructor
      · rintro ((c | c) | ⟨x, c1, c2⟩)
        · exact .inl c
        · exact .inr ⟨o, by simp, c⟩
        · exact .inr ⟨x, by simp [c1], c2⟩
      · rintro (c | ⟨x, c1, c2⟩)
        · exact .inl (.inl c)
        · rcases List.mem_cons.1 c1 with rfl | c1
          · exact .inl (.inr c2)
          · exact .inr ⟨x, c1, c2⟩
theorem dst_nodup {M : List Dec} (h : Dst M) : M.Nodup := List.nodup_iff_pairwise_ne.2 (h.imp fun {a b} hh (e : a = b) => hh (by rw [e]))
theorem len_lt_of {α : Type} {l1 l2 : List α} {x : α} (h1 : l1.Nodup) (h : ∀ y ∈ l1, y ∈ l2) (hx : x ∈ l2) (hn : x ∉ l1) : l1.length < l2.length := by
  have := len_of_sub (l1 := x :: l1) (l2 := l2) (List.nodup_cons.2 ⟨hn, h1⟩) fun y hy => by
    rcases List.mem_cons.1 hy with rfl | hy
    · exact hx
    · exact h y hy
  simp only [List.length_cons] at this
  omega
/-- Within a ledger, a call of it goes well. -/
theorem step_ok {F t : St} (hF : OKs F) (ht : OKs t) (s1 : ∀ d ∈ t.1, d ∈ F.1) (s2 : ∀ m ∈ t.2, m ∈ F.2) {o : Op} (ho : opOK o) (h1 : o.back = false → o.d ∈ F.1) (h2 : o.back = true → o.m ∈ F.2) : (doA t o).1 = 0 := by
  obtain ⟨back, d, m⟩ := o
  unfold doA
  cases back with
  | true =>
    have c := ho.2 rfl
    have f := h2 rfl
    simp only at c f
    simp only [if_true]
    unfold wdL
    rw [if_pos c]
    by_cases e : m ∈ t.2
    · rw [if_pos e]
    · rw [if_neg e, if_neg]
      have := len_lt_of ht.nd s2 f e
      have := hF.few.2
      omega
  | false =>
    have c := ho.1 rfl
    have f := h1 rfl
    simp only at c f
    simp only [Bool.false_eq_true, if_false]
    unfold mkL
    rw [if_pos c]
    cases ho : t.1.find? fun x => decide (d.mk2 = x.mk2) with
    | some q =>
      obtain ⟨q1, q2⟩ := find_some ho
      have := dst_uniq hF.dst (s1 q q1) f q2
      simp only
      rw [if_pos this]
    | none =>
      have hn := find_none ho
      simp only
      rw [if_neg]
      have := len_lt_of (dst_nodup ht.dst) s1 f (fun hh => hn d hh rfl)
      have := hF.few.1
      omega
theorem sr_eq {s t : St} (hs : OKs s) (ht : OKs t) (h1 : ∀ d, d ∈ s.1 ↔ d ∈ t.1) (h2 : ∀ m, m ∈ s.2 ↔ m ∈ t.2) : srS s = srS t := by
  refine Prod.ext ?_ ?_
  · exact srtD_uniq ht.dst (srtD_asc hs.dst) fun x => mem_srtD.trans (h1 x)
  · exact srtM_uniq ht.nd (srtM_asc hs.nd) fun x => mem_srtM.trans (h2 x)
theorem st_eq {s t : St} (h : srS s = srS t) : stL s = stL t := by rw [← rsL_sr, ← rsL_sr, h]
theorem Led.other {h : AH} {la a1 a2 b1 b2 : Nat} {F : St} (k : Led h la a1 a2 F) (n1 : a1 ≠ b1) (n2 : a1 ≠ b2) (n3 : a2 ≠ b1) (n4 : a2 ≠ b2) (s : St) : Led (setL h b1 b2 s) la a1 a2 F :=
  ⟨k.blk, (AH.mp_putM_ne _ _ n2).trans ((AH.mp_putM_ne _ _ n1).trans k.m1), (AH.mp_putM_ne _ _ n4).trans ((AH.mp_putM_ne _ _ n3).trans k.m2), k.ne⟩
theorem Led.newA {h : AH} {la a1 a2 lb b1 b2 : Nat} {F : St} (k : Led h la a1 a2 F) (hb : h.blk lb = none) (h1 : h.mp b1 = none) (h2 : h.mp b2 = none) : Led (newA h lb b1 b2) la a1 a2 F := by
  have n1 : a1 ≠ b1 := fun e => by have := k.m1; rw [e, h1] at this; cases this
  have n2 : a1 ≠ b2 := fun e => by have := k.m1; rw [e, h2] at this; cases this
  have n3 : a2 ≠ b1 := fun e => by have := k.m2; rw [e, h1] at this; cases this
  have n4 : a2 ≠ b2 := fun e => by have := k.m2; rw [e, h2] at this; cases this
  unfold Go.Proofs.Ytcnmodnafnadlaa.newA
  exact ⟨(AH.blk_put_ne _ _ (k.fresh hb)).trans k.blk, (AH.mp_putM_ne _ _ n2).trans ((AH.mp_putM_ne _ _ n1).trans k.m1), (AH.mp_putM_ne _ _ n4).trans ((AH.mp_putM_ne _ _ n3).trans k.m2), k.ne⟩
theorem Led.map_ne {h : AH} {la a1 a2 b : Nat} {F : St} (k : Led h la a1 a2 F) (hb : h.mp b = none) : a1 ≠ b ∧ a2 ≠ b :=
  ⟨fun e => (by have := k.m1; rw [e, hb] at this; cases this), fun e => (by have := k.m2; rw [e, hb] at this; cases this)⟩
end Go.Proofs.Ytcnmodnafnadlaa
namespace Go.Proofs.Ytcnmodnafnadlaa
open Go Go.Abs
set_option linter.unusedSimpArgs false
set_option linter.unusedVariables false
set_option maxRecDepth 20000

def dW : Dec := ⟨1, 5, 1, 3, 7⟩
def sW : St := ([dW], [(1, 5)])
theorem wW : wdL s0.2 (1, 5) = (0, [(1, 5)]) := by simp [wdL, mkOK, s0]
theorem mW : mkL s0.1 dW = (0, [dW]) := by simp [mkL, dcOK, mkOK, dW, Dec.mk2, s0]
theorem okW : OKs sW := ⟨⟨by simp [sW], by simp [sW]⟩, by simp [sW, Dst], by simp [sW]⟩
theorem srtW : srtD sW.1 = [dW] := by simp [srtD, sW]
theorem stW : stL sW = [] := by unfold stL; rw [srtW]; simp [sW, dW, Dec.mk2]
theorem Led.w {h : AH} {lb b1 b2 : Nat} {s : St} (k : Led h lb b1 b2 s) (W : List (Int × Int)) : Led (h.putM b2 (enM W)) lb b1 b2 (s.1, W) := ⟨k.blk, (AH.mp_putM_ne _ _ k.ne).trans k.m1, AH.mp_putM _ _ _, k.ne⟩
theorem Led.m {h : AH} {lb b1 b2 : Nat} {s : St} (k : Led h lb b1 b2 s) (M : List Dec) : Led (h.putM b1 (enD M)) lb b1 b2 (M, s.2) := ⟨k.blk, AH.mp_putM _ _ _, (AH.mp_putM_ne _ _ (Ne.symm k.ne)).trans k.m2, k.ne⟩
set_option maxHeartbeats 2000000 in
theorem r_law_awake (h : AH) : RCall Try.prog n_law_awake [] h (.bool true) := by
  refine RCall.of hm cF_law_awake (by simp [g_law_awake]) fun hw h' hl => ?_
  simp only [F_law_awake, g_law_awake, go_sem, reduceIte, Nat.reduceEqDiff, Nat.reduceAdd, Nat.reduceMul, Nat.reduceSub, reduceCtorEq, Nat.reduceLeDiff, Nat.reduceLT, Int.reduceLT, Int.reduceLE, Int.reduceToNat, Int.reduceAdd, Int.reduceSub, Int.reduceNeg, Int.reduceMul, Int.reduceEq, ← Bool.decide_and, ← Bool.decide_or, ↓tq_n, ↓tq_e, ↓tq_r, ↓bq_n, ↓bq_e, ↓bq_r, ↓rq_n, ↓rq_r, ↓rq_e]
  refine CallS.mk (s_decision_New _) fun r H' hr => ?_
  obtain ⟨lb, b1, b2, k1, k2, k3, k4, rfl, rfl⟩ := hr
  have hk := Led.new (h := h') (lb := lb) k4
  obtain ⟨H, hH⟩ : ∃ H, H = newA h' lb b1 b2 := ⟨_, rfl⟩
  have hle : h'.le H := by
    rw [hH]
    unfold newA
    exact AH.le_put (AH.le_putM (AH.le_putM (AH.le.refl _) k2) k3) k1
  rw [← hH] at hk ⊢
  simp only [F_law_awake, g_law_awake, go_sem, reduceIte, Nat.reduceEqDiff, Nat.reduceAdd, Nat.reduceMul, Nat.reduceSub, reduceCtorEq, Nat.reduceLeDiff, Nat.reduceLT, Int.reduceLT, Int.reduceLE, Int.reduceToNat, Int.reduceAdd, Int.reduceSub, Int.reduceNeg, Int.reduceMul, Int.reduceEq, ← Bool.decide_and, ← Bool.decide_or, ↓tq_n, ↓tq_e, ↓tq_r, ↓bq_n, ↓bq_e, ↓bq_r, ↓rq_n, ↓rq_r, ↓rq_e]
  refine CallS.mk (r_decision_Ledger_Withdraw lb b1 b2 s0.2 (1, 5) (by simp [s0]) _ hk.blk hk.m2) fun r H' hr => ?_
  obtain ⟨rfl, rfl⟩ := hr
  have hk2 := hk.w (wdL s0.2 (1, 5)).2
  rw [wW] at hk2 ⊢
  simp only [F_law_awake, g_law_awake, go_sem, reduceIte, Nat.reduceEqDiff, Nat.reduceAdd, Nat.reduceMul, Nat.reduceSub, reduceCtorEq, Nat.reduceLeDiff, Nat.reduceLT, Int.reduceLT, Int.reduceLE, Int.reduceToNat, Int.reduceAdd, Int.reduceSub, Int.reduceNeg, Int.reduceMul, Int.reduceEq, ← Bool.decide_and, ← Bool.decide_or, ↓tq_n, ↓tq_e, ↓tq_r, ↓bq_n, ↓bq_e, ↓bq_r, ↓rq_n, ↓rq_r, ↓rq_e]
  refine CallS.mk (r_decision_Ledger_Make lb b1 b2 s0.1 dW (by simp [s0]) _ hk2.blk hk2.m1) fun r H' hr => ?_
  obtain ⟨rfl, rfl⟩ := hr
  have hk3 := hk2.m (mkL s0.1 dW).2
  rw [mW] at hk3 ⊢
  have hk4 : Led ((H.putM b2 (enM [(1, 5)])).putM b1 (enD [dW])) lb b1 b2 sW := hk3
  simp only [F_law_awake, g_law_awake, go_sem, reduceIte, Nat.reduceEqDiff, Nat.reduceAdd, Nat.reduceMul, Nat.reduceSub, reduceCtorEq, Nat.reduceLeDiff, Nat.reduceLT, Int.reduceLT, Int.reduceLE, Int.reduceToNat, Int.reduceAdd, Int.reduceSub, Int.reduceNeg, Int.reduceMul, Int.reduceEq, ← Bool.decide_and, ← Bool.decide_or, ↓tq_n, ↓tq_e, ↓tq_r, ↓bq_n, ↓bq_e, ↓bq_r, ↓rq_n, ↓rq_r, ↓rq_e]
  refine CallG.mk (r_decision_Ledger_Standing lb b1 b2 sW okW _ hk4) ?_
  have e1 : stV sW = .sl false 0 [] .unk := by unfold stV; rw [stW, srtW]; rfl
  rw [e1]
  simp only [F_law_awake, g_law_awake, go_sem, reduceIte, Nat.reduceEqDiff, Nat.reduceAdd, Nat.reduceMul, Nat.reduceSub, reduceCtorEq, Nat.reduceLeDiff, Nat.reduceLT, Int.reduceLT, Int.reduceLE, Int.reduceToNat, Int.reduceAdd, Int.reduceSub, Int.reduceNeg, Int.reduceMul, Int.reduceEq, ← Bool.decide_and, ← Bool.decide_or, ↓tq_n, ↓tq_e, ↓tq_r, ↓bq_n, ↓bq_e, ↓bq_r, ↓rq_n, ↓rq_r, ↓rq_e]
  refine ⟨fun _ => ?_, fun hh => absurd rfl hh⟩
  refine CallG.mk (r_decision_Ledger_Made lb b1 b2 sW okW _ hk4) ?_
  have e2 : lsD (srtD sW.1) = .sl false 1 (dcs [dW]) .unk := by unfold lsD; rw [srtW]; rfl
  rw [e2]
  simp only [F_law_awake, g_law_awake, go_sem, reduceIte, Nat.reduceEqDiff, Nat.reduceAdd, Nat.reduceMul, Nat.reduceSub, reduceCtorEq, Nat.reduceLeDiff, Nat.reduceLT, Int.reduceLT, Int.reduceLE, Int.reduceToNat, Int.reduceAdd, Int.reduceSub, Int.reduceNeg, Int.reduceMul, Int.reduceEq, ← Bool.decide_and, ← Bool.decide_or, ↓tq_n, ↓tq_e, ↓tq_r, ↓bq_n, ↓bq_e, ↓bq_r, ↓rq_n, ↓rq_r, ↓rq_e]
  refine CallG.mk (r_base_Decisions false [dW] .unk false [dW] .full _) ?_
  rw [decide_eq_true rfl]
  simp only [F_law_awake, g_law_awake, go_sem, reduceIte, Nat.reduceEqDiff, Nat.reduceAdd, Nat.reduceMul, Nat.reduceSub, reduceCtorEq, Nat.reduceLeDiff, Nat.reduceLT, Int.reduceLT, Int.reduceLE, Int.reduceToNat, Int.reduceAdd, Int.reduceSub, Int.reduceNeg, Int.reduceMul, Int.reduceEq, ← Bool.decide_and, ← Bool.decide_or, ↓tq_n, ↓tq_e, ↓tq_r, ↓bq_n, ↓bq_e, ↓bq_r, ↓rq_n, ↓rq_r, ↓rq_e]
  refine CallG.mk (r_decision_Valid dW _) ?_
  rw [decide_eq_true (show dcOK dW by simp [dcOK, mkOK, dW, Dec.mk2])]
  simp only [F_law_awake, g_law_awake, go_sem, reduceIte, Nat.reduceEqDiff, Nat.reduceAdd, Nat.reduceMul, Nat.reduceSub, reduceCtorEq, Nat.reduceLeDiff, Nat.reduceLT, Int.reduceLT, Int.reduceLE, Int.reduceToNat, Int.reduceAdd, Int.reduceSub, Int.reduceNeg, Int.reduceMul, Int.reduceEq, ← Bool.decide_and, ← Bool.decide_or, ↓tq_n, ↓tq_e, ↓tq_r, ↓bq_n, ↓bq_e, ↓bq_r, ↓rq_n, ↓rq_r, ↓rq_e]
  exact ret_le (by repeat' first | exact AH.le.refl _ | assumption | (refine AH.le_put ?_ (by first | assumption | exact (AH.blk_put_ne _ _ (by assumption)).trans (by assumption) | exact AH.none_put (by assumption) | exact AH.none_put (AH.none_put (by assumption)) | (simp only [AH.blk_setTok, AH.tok_put] at *; first | assumption | exact AH.none_put (by assumption)))) | (refine AH.le_setTok ?_ (by first | assumption | exact (AH.blk_put_ne _ _ (by assumption)).trans (by assumption) | exact AH.none_put (by assumption) | exact AH.none_put (AH.none_put (by assumption)) | (simp only [AH.blk_setTok, AH.tok_put] at *; first | assumption | exact AH.none_put (by assumption)))) | (refine AH.le_putM ?_ (by first | assumption | exact (AH.mp_putM_ne _ _ (by assumption)).trans (by assumption) | (simp only [AH.mp_put, AH.mp_setTok] at *; assumption)))) (AV.le.refl _)
set_option maxHeartbeats 4000000 in
theorem r_law_DecisionKeeps (nl : Bool) (l : List Op) (tl : Tail) (h : AH) : RCall Try.prog n_law_DecisionKeeps [.sl nl l.length (ops l) tl] h (.bool true) := by
  refine RCall.of hm cF_law_DecisionKeeps (by simp [g_law_DecisionKeeps]) fun hw h' hl => ?_
  simp only [F_law_DecisionKeeps, g_law_DecisionKeeps, go_sem, reduceIte, Nat.reduceEqDiff, Nat.reduceAdd, Nat.reduceMul, Nat.reduceSub, reduceCtorEq, Nat.reduceLeDiff, Nat.reduceLT, Int.reduceLT, Int.reduceLE, Int.reduceToNat, Int.reduceAdd, Int.reduceSub, Int.reduceNeg, Int.reduceMul, Int.reduceEq, ← Bool.decide_and, ← Bool.decide_or, ↓tq_n, ↓tq_e, ↓tq_r, ↓bq_n, ↓bq_e, ↓bq_r, ↓rq_n, ↓rq_r, ↓rq_e]
  refine CallG.mk (r_law_awake _) ?_
  simp only [F_law_DecisionKeeps, g_law_DecisionKeeps, go_sem, reduceIte, Nat.reduceEqDiff, Nat.reduceAdd, Nat.reduceMul, Nat.reduceSub, reduceCtorEq, Nat.reduceLeDiff, Nat.reduceLT, Int.reduceLT, Int.reduceLE, Int.reduceToNat, Int.reduceAdd, Int.reduceSub, Int.reduceNeg, Int.reduceMul, Int.reduceEq, ← Bool.decide_and, ← Bool.decide_or, ↓tq_n, ↓tq_e, ↓tq_r, ↓bq_n, ↓bq_e, ↓bq_r, ↓rq_n, ↓rq_r, ↓rq_e]
  refine CallG.mk (r_law_few nl l tl _) ?_
  by_cases hf : l.length ≤ 60
  case neg =>
    rw [decide_eq_false hf]
    simp only [F_law_DecisionKeeps, g_law_DecisionKeeps, go_sem, reduceIte, Nat.reduceEqDiff, Nat.reduceAdd, Nat.reduceMul, Nat.reduceSub, reduceCtorEq, Nat.reduceLeDiff, Nat.reduceLT, Int.reduceLT, Int.reduceLE, Int.reduceToNat, Int.reduceAdd, Int.reduceSub, Int.reduceNeg, Int.reduceMul, Int.reduceEq, ← Bool.decide_and, ← Bool.decide_or, ↓tq_n, ↓tq_e, ↓tq_r, ↓bq_n, ↓bq_e, ↓bq_r, ↓rq_n, ↓rq_r, ↓rq_e]
    refine CallG.mk (r_law_awake _) ?_
    simp only [F_law_DecisionKeeps, g_law_DecisionKeeps, go_sem, reduceIte, Nat.reduceEqDiff, Nat.reduceAdd, Nat.reduceMul, Nat.reduceSub, reduceCtorEq, Nat.reduceLeDiff, Nat.reduceLT, Int.reduceLT, Int.reduceLE, Int.reduceToNat, Int.reduceAdd, Int.reduceSub, Int.reduceNeg, Int.reduceMul, Int.reduceEq, ← Bool.decide_and, ← Bool.decide_or, ↓tq_n, ↓tq_e, ↓tq_r, ↓bq_n, ↓bq_e, ↓bq_r, ↓rq_n, ↓rq_r, ↓rq_e]
    exact ret_ok rfl
  rw [decide_eq_true hf]
  simp only [F_law_DecisionKeeps, g_law_DecisionKeeps, go_sem, reduceIte, Nat.reduceEqDiff, Nat.reduceAdd, Nat.reduceMul, Nat.reduceSub, reduceCtorEq, Nat.reduceLeDiff, Nat.reduceLT, Int.reduceLT, Int.reduceLE, Int.reduceToNat, Int.reduceAdd, Int.reduceSub, Int.reduceNeg, Int.reduceMul, Int.reduceEq, ← Bool.decide_and, ← Bool.decide_or, ↓tq_n, ↓tq_e, ↓tq_r, ↓bq_n, ↓bq_e, ↓bq_r, ↓rq_n, ↓rq_r, ↓rq_e]
  refine CallS.mk (s_decision_New _) fun r H' hr => ?_
  obtain ⟨lb, b1, b2, k1, k2, k3, k4, rfl, rfl⟩ := hr
  have hk := Led.new (h := h') (lb := lb) k4
  obtain ⟨H, hH⟩ : ∃ H, H = newA h' lb b1 b2 := ⟨_, rfl⟩
  have hle : h'.le H := by
    rw [hH]
    unfold newA
    exact AH.le_put (AH.le_putM (AH.le_putM (AH.le.refl _) k2) k3) k1
  rw [← hH] at hk ⊢
  simp only [F_law_DecisionKeeps, g_law_DecisionKeeps, go_sem, reduceIte, Nat.reduceEqDiff, Nat.reduceAdd, Nat.reduceMul, Nat.reduceSub, reduceCtorEq, Nat.reduceLeDiff, Nat.reduceLT, Int.reduceLT, Int.reduceLE, Int.reduceToNat, Int.reduceAdd, Int.reduceSub, Int.reduceNeg, Int.reduceMul, Int.reduceEq, ← Bool.decide_and, ← Bool.decide_or, ↓tq_n, ↓tq_e, ↓tq_r, ↓bq_n, ↓bq_e, ↓bq_r, ↓rq_n, ↓rq_r, ↓rq_e]
  refine CallS.mk (s_ref_New _) fun r H' hr => ?_
  obtain ⟨rb, r1, rfl, rfl⟩ := hr
  have hrl : rb ≠ lb := fun e => by rw [e, hk.blk] at r1; cases r1
  have hrb : h'.blk rb = none := by
    cases hb : h'.blk rb with
    | none => rfl
    | some c => rw [hle.blk _ _ hb] at r1; cases r1
  have h00 : srS (runA s0 (l.take 0)) = s0 := sr0 _
  have h01 : setL H b1 b2 (runA s0 (l.take 0)) = H := by rw [show runA s0 (l.take 0) = s0 by simp [runA]]; exact hk.self
  simp only [F_law_DecisionKeeps, g_law_DecisionKeeps, go_sem, reduceIte, Nat.reduceEqDiff, Nat.reduceAdd, Nat.reduceMul, Nat.reduceSub, reduceCtorEq, Nat.reduceLeDiff, Nat.reduceLT, Int.reduceLT, Int.reduceLE, Int.reduceToNat, Int.reduceAdd, Int.reduceSub, Int.reduceNeg, Int.reduceMul, Int.reduceEq, ← Bool.decide_and, ← Bool.decide_or, ↓tq_n, ↓tq_e, ↓tq_r, ↓bq_n, ↓bq_e, ↓bq_r, ↓rq_n, ↓rq_r, ↓rq_e]
  refine awp_loop (α := Nat × RT) (fun p => [(0, .sl nl l.length (ops l) tl), (3, .ptr lb 0), (4, .ptr rb 0), (5, I p.1)]) (fun p => (setL H b1 b2 (runA s0 (l.take p.1))).put rb (rbk p.2 (srS (runA s0 (l.take p.1))))) (fun p => p.1 ≤ l.length) (fun p => l.length - p.1) (0, (true, .full, true, .full)) (Nat.zero_le _) (by simp only [h00, h01]; exact (GStep.forget (by repeat' first | exact EnvLe.nil _ | refine EnvLe.cons (AV.le.of_eq rfl) ?_ | refine EnvLe.cons (AV.le.undef _) ?_ | refine EnvLe.cons AV.le.unk ?_) (by repeat' first | exact AH.le.refl _ | assumption | (refine AH.le_put ?_ (by first | assumption | exact (AH.blk_put_ne _ _ (by assumption)).trans (by assumption) | exact AH.none_put (by assumption) | exact AH.none_put (AH.none_put (by assumption)) | (simp only [AH.blk_setTok, AH.tok_put] at *; first | assumption | exact AH.none_put (by assumption)))) | (refine AH.le_setTok ?_ (by first | assumption | exact (AH.blk_put_ne _ _ (by assumption)).trans (by assumption) | exact AH.none_put (by assumption) | exact AH.none_put (AH.none_put (by assumption)) | (simp only [AH.blk_setTok, AH.tok_put] at *; first | assumption | exact AH.none_put (by assumption)))) | (refine AH.le_putM ?_ (by first | assumption | exact (AH.mp_putM_ne _ _ (by assumption)).trans (by assumption) | (simp only [AH.mp_put, AH.mp_setTok] at *; assumption)))))) fun p hp => .of_vg hm ?_
  obtain ⟨i, q⟩ := p
  simp only at hp ⊢
  have hok := runA_ok (l.take i) ok0
  have hkk := (hk.set (runA s0 (l.take i))).put' hrl (rbk q (srS (runA s0 (l.take i))))
  by_cases h3 : i < l.length
  case neg =>
    have h3 : i = l.length := by omega
    subst h3
    rw [List.take_length] at hok hkk ⊢
    have hfw : Few (srS (runA s0 l)) := ⟨by unfold srS; simp only [srtD_len]; exact hok.few.1, by unfold srS; simp only [srtM_len]; exact hok.few.2⟩
    simp only [F_law_DecisionKeeps, g_law_DecisionKeeps, go_sem, reduceIte, Nat.reduceEqDiff, Nat.reduceAdd, Nat.reduceMul, Nat.reduceSub, reduceCtorEq, Nat.reduceLeDiff, Nat.reduceLT, Int.reduceLT, Int.reduceLE, Int.reduceToNat, Int.reduceAdd, Int.reduceSub, Int.reduceNeg, Int.reduceMul, Int.reduceEq, ← Bool.decide_and, ← Bool.decide_or, ↓tq_n, ↓tq_e, ↓tq_r, ↓bq_n, ↓bq_e, ↓bq_r, ↓rq_n, ↓rq_r, ↓rq_e]
    refine CallG.mk (r_law_same lb b1 b2 rb q (runA s0 l) _ hok _ hkk (AH.blk_put _ _ _) hfw) ?_
    rw [decide_eq_true rfl]
    simp only [F_law_DecisionKeeps, g_law_DecisionKeeps, go_sem, reduceIte, Nat.reduceEqDiff, Nat.reduceAdd, Nat.reduceMul, Nat.reduceSub, reduceCtorEq, Nat.reduceLeDiff, Nat.reduceLT, Int.reduceLT, Int.reduceLE, Int.reduceToNat, Int.reduceAdd, Int.reduceSub, Int.reduceNeg, Int.reduceMul, Int.reduceEq, ← Bool.decide_and, ← Bool.decide_or, ↓tq_n, ↓tq_e, ↓tq_r, ↓bq_n, ↓bq_e, ↓bq_r, ↓rq_n, ↓rq_r, ↓rq_e]
    refine ret_le ?_ (AV.le.refl _)
    unfold setL
    exact AH.le_put (AH.le_putM (AH.le_putM hle k2) k3) hrb
  have hc : (i : Int) < (l.length : Int) := by omega
  have hrt := runA_take s0 h3
  obtain ⟨s, hs⟩ : ∃ s, s = runA s0 (l.take i) := ⟨_, rfl⟩
  obtain ⟨o, ho⟩ : ∃ o, o = l.getD i dO := ⟨_, rfl⟩
  have hod := ops_drop h3
  rw [← hs] at hok hkk hrt ⊢
  rw [← ho] at hrt hod
  have hsm := do_sim hok o
  have hfw : Few (srS s) := ⟨by unfold srS; simp only [srtD_len]; exact hok.few.1, by unfold srS; simp only [srtM_len]; exact hok.few.2⟩
  simp only [hc, hod, F_law_DecisionKeeps, g_law_DecisionKeeps, go_sem, reduceIte, Nat.reduceEqDiff, Nat.reduceAdd, Nat.reduceMul, Nat.reduceSub, reduceCtorEq, Nat.reduceLeDiff, Nat.reduceLT, Int.reduceLT, Int.reduceLE, Int.reduceToNat, Int.reduceAdd, Int.reduceSub, Int.reduceNeg, Int.reduceMul, Int.reduceEq, ← Bool.decide_and, ← Bool.decide_or, ↓tq_n, ↓tq_e, ↓tq_r, ↓bq_n, ↓bq_e, ↓bq_r, ↓rq_n, ↓rq_r, ↓rq_e]
  refine CallG.mk (r_decision_Valid o.d _) ?_
  simp only [hc, hod, F_law_DecisionKeeps, g_law_DecisionKeeps, go_sem, reduceIte, Nat.reduceEqDiff, Nat.reduceAdd, Nat.reduceMul, Nat.reduceSub, reduceCtorEq, Nat.reduceLeDiff, Nat.reduceLT, Int.reduceLT, Int.reduceLE, Int.reduceToNat, Int.reduceAdd, Int.reduceSub, Int.reduceNeg, Int.reduceMul, Int.reduceEq, ← Bool.decide_and, ← Bool.decide_or, ↓tq_n, ↓tq_e, ↓tq_r, ↓bq_n, ↓bq_e, ↓bq_r, ↓rq_n, ↓rq_r, ↓rq_e]
  refine CallG.mk (r_ref_Valid o.d _) ?_
  simp only [hc, hod, F_law_DecisionKeeps, g_law_DecisionKeeps, go_sem, reduceIte, Nat.reduceEqDiff, Nat.reduceAdd, Nat.reduceMul, Nat.reduceSub, reduceCtorEq, Nat.reduceLeDiff, Nat.reduceLT, Int.reduceLT, Int.reduceLE, Int.reduceToNat, Int.reduceAdd, Int.reduceSub, Int.reduceNeg, Int.reduceMul, Int.reduceEq, ← Bool.decide_and, ← Bool.decide_or, ↓tq_n, ↓tq_e, ↓tq_r, ↓bq_n, ↓bq_e, ↓bq_r, ↓rq_n, ↓rq_r, ↓rq_e]
  refine CallS.mk (r_law_do lb b1 b2 s o hok.few _ hkk) fun r H' hr => ?_
  obtain ⟨rfl, rfl⟩ := hr
  rw [setL_put, setL_setL _ k4, ← hrt]
  simp only [F_law_DecisionKeeps, g_law_DecisionKeeps, go_sem, reduceIte, Nat.reduceEqDiff, Nat.reduceAdd, Nat.reduceMul, Nat.reduceSub, reduceCtorEq, Nat.reduceLeDiff, Nat.reduceLT, Int.reduceLT, Int.reduceLE, Int.reduceToNat, Int.reduceAdd, Int.reduceSub, Int.reduceNeg, Int.reduceMul, Int.reduceEq, ← Bool.decide_and, ← Bool.decide_or, ↓tq_n, ↓tq_e, ↓tq_r, ↓bq_n, ↓bq_e, ↓bq_r, ↓rq_n, ↓rq_r, ↓rq_e]
  refine CallS.mk (r_law_refer rb q (srS s) o hfw _ (AH.blk_put _ _ _)) fun r H' hr => ?_
  obtain ⟨rfl, q', rfl⟩ := hr
  rw [hsm, ← hrt]
  simp only [F_law_DecisionKeeps, g_law_DecisionKeeps, go_sem, reduceIte, Nat.reduceEqDiff, Nat.reduceAdd, Nat.reduceMul, Nat.reduceSub, reduceCtorEq, Nat.reduceLeDiff, Nat.reduceLT, Int.reduceLT, Int.reduceLE, Int.reduceToNat, Int.reduceAdd, Int.reduceSub, Int.reduceNeg, Int.reduceMul, Int.reduceEq, ← Bool.decide_and, ← Bool.decide_or, ↓tq_n, ↓tq_e, ↓tq_r, ↓bq_n, ↓bq_e, ↓bq_r, ↓rq_n, ↓rq_r, ↓rq_e]
  exact ⟨by rw [inR64]; omega, (i + 1, q'), by simp only; omega, by simp only; omega, (GStep.forget (by repeat' first | exact EnvLe.nil _ | refine EnvLe.cons (AV.le.of_eq rfl) ?_ | refine EnvLe.cons (AV.le.undef _) ?_ | refine EnvLe.cons AV.le.unk ?_) (by repeat' first | exact AH.le.refl _ | assumption | (refine AH.le_put ?_ (by first | assumption | exact (AH.blk_put_ne _ _ (by assumption)).trans (by assumption) | exact AH.none_put (by assumption) | exact AH.none_put (AH.none_put (by assumption)) | (simp only [AH.blk_setTok, AH.tok_put] at *; first | assumption | exact AH.none_put (by assumption)))) | (refine AH.le_setTok ?_ (by first | assumption | exact (AH.blk_put_ne _ _ (by assumption)).trans (by assumption) | exact AH.none_put (by assumption) | exact AH.none_put (AH.none_put (by assumption)) | (simp only [AH.blk_setTok, AH.tok_put] at *; first | assumption | exact AH.none_put (by assumption)))) | (refine AH.le_putM ?_ (by first | assumption | exact (AH.mp_putM_ne _ _ (by assumption)).trans (by assumption) | (simp only [AH.mp_put, AH.mp_setTok] at *; assumption)))))⟩
end Go.Proofs.Ytcnmodnafnadlaa
namespace Go.Abs
open Go
set_option linter.unusedSimpArgs false
set_option linter.unusedVariables false

/-- The map in block c holds these entries. -/
def MpAt (s : Sg) (w : World) (c : Nat) (es : List (AV × AV)) : Prop := ∃ mes ck, w.heap[c]? = some (.map mes ck) ∧ EntOK s es mes.toList ∧ (∀ e ∈ mes.toList, e.born < ck) ∧ (mes.toList.map (·.born)).Nodup
theorem HSim.mpAt {s : Sg} {h : AH} {w0 : World} {own : Nat → Prop} {w : World} (k : HSim s h w0 own w) {b : Nat} {es : List (AV × AV)} (hb : h.mp b = some es) : ∃ c, s.mb b = some c ∧ MpAt s w c es := by
  obtain ⟨c, mes, ck, a1, a2, a3, a4, a5, _⟩ := k.mp b es hb
  exact ⟨c, a1, mes, ck, a2, a3, a4, a5⟩
theorem MpAt.heap {s : Sg} {w w' : World} {c : Nat} {es : List (AV × AV)} (k : MpAt s w c es) (h : w'.heap[c]? = w.heap[c]?) : MpAt s w' c es := by
  obtain ⟨mes, ck, a1, a2⟩ := k
  exact ⟨mes, ck, h.trans a1, a2⟩
theorem MpAt.lt {s : Sg} {w : World} {c : Nat} {es : List (AV × AV)} (k : MpAt s w c es) : c < w.heap.size := by
  obtain ⟨mes, ck, a1, a2⟩ := k
  exact (Array.getElem?_eq_some_iff.1 a1).1
theorem MpAt.lookup {P : Program} {s : Sg} {w : World} {c : Nat} {es : List (AV × AV)} (m : MpAt s w c es) {t k e' : TypeId} {kd : Option Nat} {z : AV} (ht : mapT P t = some (k, e', kd)) (hz : zeroV P e' = some z) {ka : AV} {vk : Value} (ri : VRel s ka vk) {r : Option AV} (hf : findAV kd ka es = some r) :
    ∃ v, (Instr.lookup t (.map (some c)) vk true).run P w = .ok (.tuple #[v, .bool r.isSome]) w ∧ VRel s (r.getD z) v := by
  obtain ⟨hu, hkt⟩ := mapT_inv ht
  obtain ⟨mes, ck, a2, a3, a4, a5⟩ := m
  have hck := checkKey_run (w := w) (keyT_is hkt (findAV_ok hf) ri) mes.isEmpty
  obtain ⟨op, hrun, hcase⟩ := findKey_run (P := P) (w := w) hkt ri a3 hf
  obtain ⟨zv, hzr, hzv⟩ := zeroV_inv hz w s
  have hget := MapKept.run_getObj_map (P := P) a2
  rcases hcase with ⟨rfl, rfl, _⟩ | ⟨j, m, y, rfl, rfl, _, hrel, _⟩
  · exact ⟨zv, by simp [Instr.lookup, run_underlying hu, hget, hck, hrun, hzr], hzv⟩
  · exact ⟨m.val, by simp [Instr.lookup, run_underlying hu, hget, hck, hrun], hrel⟩
theorem MpAt.update {P : Program} {s : Sg} {w : World} {c : Nat} {es es' : List (AV × AV)} (m : MpAt s w c es) {t k e' : TypeId} {kd : Option Nat} (ht : mapT P t = some (k, e', kd)) {ka xa : AV} {vk vx : Value} (ri : VRel s ka vk) (rx : VRel s xa vx) (hup : updAV kd ka xa es = some es') :
    ∃ mes' ck', (Instr.mapUpdate t (.map (some c)) vk vx).run P w = .ok () { w with heap := w.heap.setIfInBounds c (.map mes' ck') } ∧ MpAt s { w with heap := w.heap.setIfInBounds c (.map mes' ck') } c es' := by
  obtain ⟨hu, hkt⟩ := mapT_inv ht
  obtain ⟨r, hf⟩ := updAV_find hup
  obtain ⟨mes, ck, a2, a3, a4, a5⟩ := m
  have hki := keyT_is hkt (findAV_ok hf) ri
  have hck := checkKey_run (w := w) hki false
  obtain ⟨op, hrun, hcase⟩ := findKey_run (P := P) (w := w) hkt ri a3 hf
  have hget := MapKept.run_getObj_map (P := P) a2
  have hml : mes.size = es.length := by rw [← a3.1]; simp
  have hcl : c < w.heap.size := (Array.getElem?_eq_some_iff.1 a2).1
  rcases hcase with ⟨rfl, rfl, hu2⟩ | ⟨j, mj, y, rfl, rfl, hmj, hrel, hkey, hlt, hu2⟩
  · rw [hu2] at hup
    cases hup
    have hset2 := MapKept.run_setObj_map (P := P) (.map (mes.push { key := vk, val := vx, born := ck }) (ck + 1)) a2
    refine ⟨mes.push { key := vk, val := vx, born := ck }, ck + 1, ?_, ?_⟩
    · simp [Instr.mapUpdate, run_underlying hu, hget, hck, hrun, hset2]
    · refine ⟨mes.push { key := vk, val := vx, born := ck }, ck + 1, (by simp [hcl]), ?_, ?_, ?_⟩
      · refine ⟨by simp [hml], fun j e m he hm' => ?_⟩
        rw [List.getElem?_append] at he
        simp only [Array.toList_push, List.getElem?_append, Array.length_toList] at hm'
        rw [hml] at hm'
        split at he
        · rw [if_pos (by assumption)] at hm'; exact a3.2 j e m he hm'
        · rw [if_neg (by assumption)] at hm'
          rename_i hjn
          obtain ⟨q, hq⟩ : ∃ q, j - es.length = q := ⟨_, rfl⟩
          rw [hq] at he hm'
          cases q with
          | zero => simp at he hm'; subst he hm'; exact ⟨ri, rx⟩
          | succ q => simp at he
      · intro e he
        simp only [Array.toList_push, List.mem_append, List.mem_singleton] at he
        rcases he with he | rfl
        · have := a4 e he; omega
        · simp
      · simp only [Array.toList_push, List.map_append, List.map_cons, List.map_nil]
        refine List.nodup_append.2 ⟨a5, by simp, fun u hu v hv huv => ?_⟩
        simp only [List.mem_singleton] at hv
        subst huv hv
        obtain ⟨m', hm', hb'⟩ := List.mem_map.1 hu
        have := a4 m' hm'; omega
  · rw [hu2] at hup
    cases hup
    have hmj' : mes[j]? = some mj := by simpa using hmj
    have hsb : Instr.sameBits 10000 vk vk = true := by
      cases kd with
      | none => obtain ⟨_, k, n, e1⟩ := hki; rw [e1]; simp [Instr.sameBits]
      | some q =>
        obtain ⟨fs, _, _, _, _, us, e1, _, hints⟩ := hki
        rw [e1]
        have hh : ∀ d, Instr.sameBits (d + 1) (.agg us.toArray) (.agg us.toArray) = true := fun d => by
          simp only [Instr.sameBits, beq_self_eq_true, Bool.true_and]
          exact sameBits_ints us hints d
        exact hh 9999
    have hget2 : ∀ q : Nat, (mes.modify j fun e => { e with key := vk, val := vx })[q]? = if q = j then some { key := vk, val := vx, born := mj.born } else mes[q]? := by
      intro q
      rw [Array.getElem?_modify]
      by_cases hq : j = q
      · subst hq; simp [hmj']
      · rw [if_neg hq, if_neg (fun hh => hq hh.symm)]
    have hMs : (mes.modify j fun e => { e with key := vk, val := vx }).size = mes.size := Array.size_modify
    have hgl : ∀ q : Nat, (mes.modify j fun e => { e with key := vk, val := vx }).toList[q]? = if q = j then some { key := vk, val := vx, born := mj.born } else mes[q]? := fun q => by rw [Array.getElem?_toList]; exact hget2 q
    have hset2 := MapKept.run_setObj_map (P := P) (.map (mes.modify j fun e => { e with key := vk, val := vx }) ck) a2
    have hst : (Instr.keyThatStays vk vk).run P w = .ok vk w := by simp [Instr.keyThatStays, hsb]
    refine ⟨mes.modify j fun e => { e with key := vk, val := vx }, ck, ?_, ?_⟩
    · simp [Instr.mapUpdate, run_underlying hu, hget, hck, hrun, hmj', hkey, hst, hset2]
    · refine ⟨mes.modify j fun e => { e with key := vk, val := vx }, ck, (by simp [hcl]), ?_, ?_, ?_⟩
      · refine ⟨by rw [Array.length_toList, hMs, List.length_set, hml], fun q e m he hm' => ?_⟩
        rw [hgl] at hm'
        rw [List.getElem?_set] at he
        by_cases hq : q = j
        · subst hq
          rw [if_pos rfl] at hm'
          rw [if_pos rfl, if_pos hlt] at he
          cases hm'; cases he
          exact ⟨ri, rx⟩
        · rw [if_neg hq] at hm'
          rw [if_neg (fun hh => hq hh.symm)] at he
          exact a3.2 q e m he (by rw [Array.getElem?_toList]; exact hm')
      · intro e he
        obtain ⟨q, hq⟩ := List.getElem?_of_mem he
        rw [hgl] at hq
        by_cases hqj : q = j
        · rw [if_pos hqj] at hq
          rw [← Option.some.inj hq]
          exact a4 mj (List.mem_of_getElem? hmj)
        · rw [if_neg hqj] at hq
          exact a4 _ (List.mem_of_getElem? (by rw [Array.getElem?_toList]; exact hq))
      · have : (mes.modify j fun e => { e with key := vk, val := vx }).toList.map (·.born) = mes.toList.map (·.born) := by
          apply List.ext_getElem?
          intro q
          rw [List.getElem?_map, List.getElem?_map, hgl, Array.getElem?_toList]
          by_cases hqj : q = j
          · subst hqj; rw [if_pos rfl, hmj']; rfl
          · rw [if_neg hqj]
        rw [this]; exact a5
/-- A new map, wherever it lies. -/
theorem HSim.newMapAt {s : Sg} {h : AH} {w0 : World} {own : Nat → Prop} {w : World} (k : HSim s h w0 own w) {g : Nat} {es : List (AV × AV)} (hm : MpAt s w g es) (fresh : ∀ b, h.mp b ≠ none → s.mb b ≠ some g) (hg0 : w0.heap.size ≤ g) :
    ∃ s', s.le s' ∧ HSim s' (h.putM s.nm es) w0 own w ∧ s'.mb s.nm = some g ∧ h.mp s.nm = none ∧ ∀ b, b ≠ s.nm → s'.mb b = s.mb b := by
  obtain ⟨gmes, gck, m1, m2, m3, m4⟩ := hm
  have hnm : s.mb s.nm = none := k.nm s.nm (Nat.le_refl _)
  have hhn : h.mp s.nm = none := by
    cases hb : h.mp s.nm with
    | none => rfl
    | some cs => obtain ⟨c, mes, t, a1, _⟩ := k.mp s.nm cs hb; rw [hnm] at a1; cases a1
  let s' : Sg := { s with mb := fun b => if b = s.nm then some g else s.mb b, nm := s.nm + 1 }
  have hle : s.le s' := ⟨fun _ _ _ e => e, fun _ _ e => e, fun t i e => ⟨i, e, Nat.le_refl _, fun _ => rfl⟩, fun b c e => by
    show (if b = s.nm then _ else _) = _
    rw [if_neg (fun hb => by subst hb; rw [hnm] at e; cases e)]; exact e⟩
  have mbne : ∀ b c, b ≠ s.nm → s'.mb b = some c → s.mb b = some c := fun b c hb e => by
    have : s'.mb b = s.mb b := if_neg hb
    rw [this] at e; exact e
  refine ⟨s', hle, ?_, if_pos rfl, hhn, fun b hb => if_neg hb⟩
  exact {
    fx := k.fx
    blk := fun b cs eb => by
      obtain ⟨c, ws, t, a1, a2, a3, a4, a5, a6⟩ := k.blk b cs eb
      exact ⟨c, ws, t, a1, a2, a3, fun j x hx => by obtain ⟨v, b1, b2, b3⟩ := a4 j x hx; exact ⟨v, b1, b2, b3.mono hle⟩, a5, a6⟩
    inj := k.inj
    tok := fun t n et => k.tok t n et
    tokinj := k.tokinj
    tokblk := k.tokblk
    nb := k.nb
    nt := k.nt
    mp := fun b es eb => by
      simp only [AH.putM] at eb
      by_cases hb : b = s.nm
      · subst hb
        rw [if_pos rfl] at eb
        cases eb
        exact ⟨g, gmes, gck, if_pos rfl, m1, m2.mono hle, m3, m4, .inl hg0⟩
      · rw [if_neg hb] at eb
        obtain ⟨c, mes, ck, a1, a2, a3, a4⟩ := k.mp b es eb
        exact ⟨c, mes, ck, hle.mb _ _ a1, a2, a3.mono hle, a4⟩
    minj := fun b b' c e1 e2 e3 e4 => by
      simp only [AH.putM] at e1 e2
      by_cases hb : b = s.nm
      · by_cases hb' : b' = s.nm
        · rw [hb, hb']
        · rw [if_neg hb'] at e2
          subst hb
          have : s'.mb s.nm = some g := if_pos rfl
          rw [this] at e3; cases e3
          exact absurd (mbne b' _ hb' e4) (fresh b' e2)
      · rw [if_neg hb] at e1
        by_cases hb' : b' = s.nm
        · subst hb'
          have : s'.mb s.nm = some g := if_pos rfl
          rw [this] at e4; cases e4
          exact absurd (mbne b _ hb e3) (fresh b e1)
        · rw [if_neg hb'] at e2
          exact k.minj b b' c e1 e2 (mbne b c hb e3) (mbne b' c hb' e4)
    nm := fun b hb => by
      have h1 : ¬ b = s.nm := by have : s.nm + 1 ≤ b := hb; omega
      show (if b = s.nm then _ else _) = _
      rw [if_neg h1]
      exact k.nm b (by have : s.nm + 1 ≤ b := hb; omega)
    frame := k.frame
    size := k.size
    os := k.os
    tape := k.tape
    output := k.output }


end Go.Abs
namespace Go.Abs
open Go Go.Proofs Go.RowKit
open Go.ChangeMaps (setBlock)
set_option linter.unusedSimpArgs false
set_option linter.unusedVariables false
section
variable {P : Program} (w : World) {ops : Array Oper} {rest : List Oper} {o : Oper} {a : Act} {Q : Exit → Act → World → Prop}
theorem wpList_range_raw (hg : o.guard = none) (m : Operand) (t : TypeId) (hop : o.op = Op.range t m) (k e : TypeId) (ht : P.underlying t = some (.map k e)) (c : Nat) (es : Array MapEntry) (ck : Nat)
    (hm : a.eval m = .map (some c)) (hb : w.heap[c]? = some (.map es ck))
    (hK : wpList P ops Q rest (a.put o.dst (.pointer (some ⟨w.heap.size, 0, none⟩))) (w.alloc (.mapIter (some c) ck #[] ck))) :
    wpList P ops Q (o :: rest) a w := by
  refine wpList_plain hg fun K' hK' => ?_
  have hrun := run_range_map (P := P) w t k e c es ck ht hb
  unfold Oper.wp
  simp [execOp, hop, hm, hrun, Result.andThen]
  exact hK' _ _ hK
theorem wpList_next_raw (hg : o.guard = none) (it : Operand) (hop : o.op = Op.next it false) (r c since c0 : Nat) (seen : Array Nat) (es : Array MapEntry) (ck : Nat)
    (hit : a.eval it = .pointer (some ⟨r, 0, none⟩)) (hr : w.heap[r]? = some (.mapIter (some c) since seen c0)) (hb : w.heap[c]? = some (.map es ck)) (hold : ∀ x ∈ es.toList, x.born < since) (hsc : since ≤ c0)
    (hDone : Left0 es seen → wpList P ops Q rest (a.put o.dst (.tuple #[.bool false])) w)
    (hMore : ∀ (x : MapEntry) (W : World), NextW w r c since ck seen es x W → wpList P ops Q rest (a.put o.dst (.tuple #[.bool true, x.key, x.val])) W) :
    wpList P ops Q (o :: rest) a w := by
  refine wpList_plain hg fun K' hK' => ?_
  unfold Oper.wp
  rcases run_next_at (P := P) w o.type r c since c0 seen es ck hr hb hold hsc with ⟨h0, hrun⟩ | ⟨x, hx, w1, hw1, hrun⟩
  · simp [execOp, hop, hit, hrun, Result.andThen]
    exact hK' _ _ (hDone h0)
  · simp [execOp, hop, hit, hrun, Result.andThen]
    exact hK' _ _ (hMore x _ ⟨hx, setBlock_grown hw1 r _, setBlock_same hw1 hr _⟩)
/-- A map is written: nothing else turns. -/
structure UpdW (s : Sg) (w : World) (c : Nat) (es : List (AV × AV)) (W : World) : Prop where
  at_ : MpAt s W c es
  grown : w.grownBy W (some c)
theorem wpList_mapUpdate_raw (s : Sg) (hg : o.guard = none) (m x v : Operand) (t : TypeId) (hop : o.op = Op.mapUpdate t m x v) {k e' : TypeId} {kd : Option Nat} (ht : mapT P t = some (k, e', kd)) (c : Nat) (es es' : List (AV × AV)) (hm : a.eval m = .map (some c)) (hb : MpAt s w c es) (key val : Value) (hx : a.eval x = key) (hv : a.eval v = val)
    {ka xa : AV} (rk : VRel s ka key) (rx : VRel s xa val) (hup : updAV kd ka xa es = some es')
    (hK : ∀ W, UpdW s w c es' W → wpList P ops Q rest (a.put o.dst undef) W) : wpList P ops Q (o :: rest) a w := by
  refine wpList_plain hg fun K' hK' => ?_
  obtain ⟨mes', ck', hrun, hat⟩ := hb.update ht rk rx hup
  unfold Oper.wp
  simp [execOp, hop, hm, hx, hv, hrun, Result.andThen]
  refine hK' _ _ (hK _ ⟨hat, ?_⟩)
  refine ⟨rfl, rfl, rfl, ?_, fun k hk hne => ?_⟩
  · simp
  · have hne : c ≠ k := fun e => hne (by rw [e])
    simp [Array.getElem?_setIfInBounds, hne]
end
end Go.Abs
namespace Go.Proofs.Ytcnmodnafnadlaa
set_option maxRecDepth 100000
open Go Go.Abs Go.Shelf Go.Proofs Go.RowKit Go.Maps Go.Sort
set_option linter.unusedSimpArgs false
set_option linter.unusedVariables false
def rcF : Nat → Nat
  | 5 => 52
  | 7 => 70
  | _ => 0
def rcT : Nat → Nat
  | 3 => 31
  | 4 => 4
  | 20 => 20
  | 23 => 58
  | 25 => 33
  | _ => 0
def rc : Ren := ⟨rcF, rcT, fun x => x⟩
theorem clLays : SlLaysW.n5 Try.prog rc where
  mixed := by kernel_rfl
  f5 := ⟨ "maps.Clone[map[coinage/api.Mark]coinage/api.Decision,coinage/api.Mark,coinage/api.Decision]", by decide, by kernel_rfl⟩
  f7 := by kernel_rfl
  t4 := Try.underlying4
  a4 := Try.isAgg4
  z4 := Try.sizeOf4
  v4 := Try.zeroValue4
  t20 := Try.underlying20
  a20 := Try.isAgg20
  z20 := Try.sizeOf20
  v20 := Try.zeroValue20
  t23 := Try.underlying58
  a23 := Try.isAgg58
  z23 := Try.sizeOf58
  v23 := Try.zeroValue58
def rcFM : Nat → Nat
  | 5 => 53
  | 7 => 70
  | _ => 0
def rcTM : Nat → Nat
  | 3 => 4
  | 4 => 4
  | 20 => 20
  | 23 => 59
  | 25 => 33
  | _ => 0
def rcM : Ren := ⟨rcFM, rcTM, fun x => x⟩
theorem clLaysM : SlLaysW.n5 Try.prog rcM where
  mixed := by kernel_rfl
  f5 := ⟨ "maps.Clone[map[coinage/api.Mark]bool,coinage/api.Mark,bool]", by decide, by kernel_rfl⟩
  f7 := by kernel_rfl
  t4 := Try.underlying4
  a4 := Try.isAgg4
  z4 := Try.sizeOf4
  v4 := Try.zeroValue4
  t20 := Try.underlying20
  a20 := Try.isAgg20
  z20 := Try.sizeOf20
  v20 := Try.zeroValue20
  t23 := Try.underlying59
  a23 := Try.isAgg59
  z23 := Try.sizeOf59
  v23 := Try.zeroValue59
theorem c_Clone (c : Nat) (es : Array MapEntry) (ck : Nat) (w : World) (hb : w.heap[c]? = some (.map es ck)) : Calls Try.prog 52 #[.map (some c)] w fun e w' => e = .returned (.map (some w.heap.size)) ∧ w' = w.alloc (.map es ck) := AnyW.maps_Clone clLays c es ck w hb
theorem c_CloneM (c : Nat) (es : Array MapEntry) (ck : Nat) (w : World) (hb : w.heap[c]? = some (.map es ck)) : Calls Try.prog 53 #[.map (some c)] w fun e w' => e = .returned (.map (some w.heap.size)) ∧ w' = w.alloc (.map es ck) := AnyW.maps_Clone clLaysM c es ck w hb
theorem acall_clone {f : FuncId} (hok : callOK Try.prog f = true) (H : ∀ (c : Nat) (es : Array MapEntry) (ck : Nat) (w : World) (hb : w.heap[c]? = some (.map es ck)), Calls Try.prog f #[.map (some c)] w fun e w' => e = .returned (.map (some w.heap.size)) ∧ w' = w.alloc (.map es ck)) (b : Nat) (es : List (AV × AV)) (h : AH) (hb : h.mp b = some es) :
    ACalls Try.prog f [.map b] h fun r g => ∃ b', h.mp b' = none ∧ r = .map b' ∧ g = h.putM b' es := by
  refine ⟨hok, fun s vs w hv hs => ?_⟩
  obtain ⟨v, hv0, hr⟩ := hv.at_ (j := 0) rfl
  have hvs : vs = [v] := by
    match vs, hv.1, hv0 with
    | [a], _, h => simp at h; rw [h]
  subst hvs
  obtain ⟨c, rfl, hbc⟩ := hr.map_inv
  obtain ⟨c', mes, ck, m1, m2, m3, m4, m5, _⟩ := hs.mp b es hb
  rw [hbc] at m1
  cases m1
  refine (H c mes ck w m2).mono fun e w' hh => ?_
  obtain ⟨rfl, rfl⟩ := hh
  have k := hs.later (Later.alloc w (.map mes ck))
  obtain ⟨s', a1, a2, a3, a4, _⟩ := k.newMapAt (g := w.heap.size) (es := es) ⟨mes, ck, World.alloc_heap_new w _, m3, m4, m5⟩ (fun x hx e => by
    cases hc : h.mp x with
    | none => exact hx hc
    | some es' =>
      obtain ⟨d, ms, t, q1, q2, _⟩ := hs.mp x es' hc
      rw [e] at q1; cases q1
      have := lt_of_heap q2; omega) (Nat.le_refl _)
  exact ⟨s', _, _, _, a1, a2, rfl, .map s.nm w.heap.size a3, s.nm, a4, rfl, rfl⟩
theorem s_maps_Clone_D (b : Nat) (es : List (AV × AV)) (h : AH) (hb : h.mp b = some es) : ACalls Try.prog 52 [.map b] h fun r g => ∃ b', h.mp b' = none ∧ r = .map b' ∧ g = h.putM b' es := acall_clone (by kernel_rfl) c_Clone b es h hb
theorem s_maps_Clone_M (b : Nat) (es : List (AV × AV)) (h : AH) (hb : h.mp b = some es) : ACalls Try.prog 53 [.map b] h fun r g => ∃ b', h.mp b' = none ∧ r = .map b' ∧ g = h.putM b' es := acall_clone (by kernel_rfl) c_CloneM b es h hb
end Go.Proofs.Ytcnmodnafnadlaa
namespace Go.Proofs.Ytcnmodnafnadlaa
set_option maxRecDepth 100000
open Go Go.Abs Go.Shelf Go.Proofs Go.RowKit Go.Maps Go.Sort
set_option linter.unusedSimpArgs false
set_option linter.unusedVariables false
/-- Marks, and decisions, laid into others one by one. -/
def uniM (D : List (Int × Int)) (ys : List (Int × Int)) : List (Int × Int) := ys.foldl (fun D m => if m ∈ D then D else D ++ [m]) D
def uniD (M : List Dec) (xs : List Dec) : List Dec := xs.foldl (fun M d => if ∃ o ∈ M, o.mk2 = d.mk2 then M else M ++ [d]) M
theorem uniM_snoc (D ys : List (Int × Int)) (m : Int × Int) : uniM D (ys ++ [m]) = if m ∈ uniM D ys then uniM D ys else uniM D ys ++ [m] := by unfold uniM; rw [List.foldl_append]; rfl
theorem updM {k : Int × Int} {D : List (Int × Int)} : updAV (some 2) (stM k) (.bool true) (enM D) = some (enM (if k ∈ D then D else D ++ [k])) := by
  by_cases h : k ∈ D
  · rw [if_pos h]
    induction D with
    | nil => cases h
    | cons x D ih =>
      have e : enM (x :: D) = (stM x, .bool true) :: enM D := rfl
      rw [e, updAV, key_st]
      by_cases h2 : k = x
      · subst h2
        rw [decide_eq_true rfl]
      · rw [decide_eq_false h2]
        simp only
        rw [ih ((List.mem_cons.1 h).resolve_left h2)]
        rfl
  · rw [if_neg h]
    exact upd_enM h
theorem agg2 {s : Sg} {m : Int × Int} {v : Value} (h : VRel s (stM m) v) : v = g2 m := by
  obtain ⟨vs, rfl, hr⟩ := h.st_inv
  obtain ⟨v0, q0, t0⟩ := hr.at_ (j := 0) rfl
  obtain ⟨rfl, _⟩ := t0.int_inv
  obtain ⟨v1, q1, t1⟩ := hr.at_ (j := 1) rfl
  obtain ⟨rfl, _⟩ := t1.int_inv
  match vs, hr.1, q0, q1 with
  | [a, b], _, h0, h1 => simp at h0 h1; simp [g2, h0, h1]
/-- The entries of a map, with their meaning. -/
theorem zip_ent {α : Type} {s : Sg} {mes : Array MapEntry} {S : List α} (en : α → AV × AV) (h : EntOK s (S.map en) mes.toList) : ∃ T : List (MapEntry × α), T.map (·.1) = mes.toList ∧ T.map (·.2) = S ∧ ∀ x ∈ T, VRel s (en x.2).1 x.1.key ∧ VRel s (en x.2).2 x.1.val := by
  have hl : mes.toList.length = S.length := by rw [h.1, List.length_map]
  refine ⟨mes.toList.zip S, by rw [List.map_fst_zip (by omega)], by rw [List.map_snd_zip (by omega)], fun x hx => ?_⟩
  obtain ⟨i, hi, rfl⟩ := List.getElem_of_mem hx
  rw [List.length_zip] at hi
  have := h.2 i (en S[i]) mes.toList[i] (by rw [List.getElem?_map, List.getElem?_eq_getElem (by omega)]; rfl) (List.getElem?_eq_getElem (by omega))
  simpa using this
set_option maxHeartbeats 2000000 in
theorem c_Copy (s : Sg) (w : World) (cd cs : Nat) (D S : List (Int × Int)) (hd : MpAt s w cd (enM D)) (hs : MpAt s w cs (enM S)) (hne : cd ≠ cs) : Calls Try.prog 54 #[.map (some cd), .map (some cs)] w fun e w' => e = .returned (.tuple #[]) ∧ ∃ ys, ys.Perm S ∧ MpAt s w' cd (enM (uniM D ys)) ∧ w.grownBy w' (some cd) := by
  have hcd := hd.lt
  have hcs := hs.lt
  obtain ⟨mes, ck, m1, m2, m3, m4⟩ := hs
  obtain ⟨T, hT, hT2, hTv⟩ := zip_ent (fun m => (stM m, AV.bool true)) m2
  have hmt : mapT Try.prog 59 = some (33, 4, some 2) := by kernel_rfl
  go_enter Try.func54, Try.ntmps54
  go_wp2_with (first
    | (at_range; refine wpList_range_raw _ rfl _ 59 rfl 33 4 Try.underlying59 cs mes ck rfl m1 ?_)
    | go_in)
  try go_frame
  have hg0 : w.grownBy (w.alloc (.mapIter (some cs) ck #[] ck)) none := World.grownBy_alloc w _ _
  have hi0 : (w.alloc (.mapIter (some cs) ck #[] ck)).heap[w.heap.size]? = some (.mapIter (some cs) ck #[] ck) := World.alloc_heap_new w _
  have hc0 : (w.alloc (.mapIter (some cs) ck #[] ck)).heap[cs]? = some (.map mes ck) := (Below.heap_alloc _ _ cs hcs).trans m1
  have hd0 : MpAt s (w.alloc (.mapIter (some cs) ck #[] ck)) cd (enM D) := hd.heap (Below.heap_alloc _ _ cd hcd)
  go_loopw [4] (fun _ wr => ∃ (got : List (MapEntry × (Int × Int))) (seen : Array Nat) (c0 : Nat), MIt T got seen ∧ wr.heap[w.heap.size]? = some (.mapIter (some cs) ck seen c0) ∧ ck ≤ c0 ∧ wr.heap[cs]? = some (.map mes ck) ∧ MpAt s wr cd (enM (uniM D (got.map (·.2)))) ∧ w.grownBy wr (some cd))
    (fun _ wr => mes.size - iterSeen wr w.heap.size)
  case atStart => exact ⟨[], #[], ck, MIt.start T, hi0, Nat.le_refl _, hc0, hd0, hg0.but _⟩
  case round =>
    obtain ⟨got, seen, c0, hM, hir, hck, hcr, hdr, hgr⟩ := hrel
    go_wp2_with (first
      | (at_next; refine wpList_next_raw _ rfl _ rfl w.heap.size cs ck c0 seen mes ck rfl hir hcr m3 hck ?_ ?_)
      | go_in)
    · intro hz
      go_wp2
      go_end0
      exact ⟨rfl, got.map (·.2), by rw [← hT2]; exact (hM.done hT m4 hz).map _, hdr, hgr⟩
    · intro x W2 hN
      obtain ⟨y, hy1, hM2, hlt⟩ := hM.step hT hN.mem
      obtain ⟨rk, rv⟩ := hTv _ hy1
      simp only at rk rv
      have hxk := agg2 rk
      have hxv := rv.bool_inv
      have hg2 := hN.grown
      have hir2 := hN.same
      have hcr2 : W2.heap[cs]? = some (.map mes ck) := (hg2.block cs (Array.getElem?_eq_some_iff.1 hcr).1 (fun e => by have := Option.some.inj e; omega)).trans hcr
      have hdr2 : MpAt s W2 cd (enM (uniM D (got.map (·.2)))) := hdr.heap (hg2.block cd hdr.lt (fun e => by have := Option.some.inj e; omega))
      have hxm : x ∈ mes.toList := (mem_leftOf.1 hN.mem).1
      have hen := run_entry_at (P := Try.prog) W2 w.heap.size cs ck seen mes ck x hir2 hcr2 hxm m4
      rw [hxk] at rk
      rw [hxk, hxv] at hen ⊢
      unfold g2 at hen rk ⊢
      have hd3 := hdr2.heap (w' := W2.alloc (.cells #[.int .i64 y.1, .int .i64 y.2] 33)) (Below.heap_alloc _ _ cd hdr2.lt)
      have hrl : w.heap.size < W2.heap.size := (Array.getElem?_eq_some_iff.1 hir2).1
      have hcl2 : cs < W2.heap.size := (Array.getElem?_eq_some_iff.1 hcr2).1
      go_wp2_with (first
        | (at_mapUpdate; refine wpList_mapUpdate_raw _ s rfl _ _ _ 59 rfl hmt cd _ _ rfl hd3 _ _ rfl rfl rk (.bool true) updM ?_; intro W3 hU; try go_frame)
        | go_in)
      have hg3 := hU.grown
      have hir3 : W3.heap[w.heap.size]? = some (.mapIter (some cs) ck (seen.push x.born) ck) := (hg3.block _ (by rw [World.size_alloc]; omega) (fun e => by have := Option.some.inj e; omega)).trans ((Below.heap_alloc _ _ _ hrl).trans hir2)
      have hcr3 : W3.heap[cs]? = some (.map mes ck) := (hg3.block _ (by rw [World.size_alloc]; omega) (fun e => by have := Option.some.inj e; omega)).trans ((Below.heap_alloc _ _ _ hcl2).trans hcr2)
      go_roundw
      case rel =>
        refine ⟨got ++ [(x, y)], _, ck, hM2, hir3, Nat.le_refl _, hcr3, ?_, ?_⟩
        · rw [List.map_append, List.map_singleton, uniM_snoc]
          exact hU.at_
        · exact ((hgr.andThen hg2 (fun j hj => .inl (by cases hj; exact Nat.le_refl _))).andThen (World.grownBy_alloc W2 _ none) (fun j hj => by cases hj)).andThen hg3 (fun j hj => .inr hj)
      case measure =>
        rw [iterSeen_eq hir3, iterSeen_eq hir, Array.size_push]
        have h1 : seen.size = got.length := by rw [← Array.length_toList, hM.seen, List.length_map]
        have h2 : mes.size = T.length := by rw [← Array.length_toList, ← hT, List.length_map]
        omega
end Go.Proofs.Ytcnmodnafnadlaa
namespace Go.Abs
open Go Go.Proofs Go.RowKit
section
variable {P : Program} (w : World) {ops : Array Oper} {rest : List Oper} {o : Oper} {a : Act} {Q : Exit → Act → World → Prop}
theorem wpList_lookup_raw (s : Sg) (hg : o.guard = none) (m x : Operand) (t : TypeId) (hop : o.op = Op.lookup t m x true) {k e' : TypeId} {kd : Option Nat} {z : AV} (ht : mapT P t = some (k, e', kd)) (hz : zeroV P e' = some z) (c : Nat) (es : List (AV × AV)) (hm : a.eval m = .map (some c)) (hb : MpAt s w c es) (key : Value) (hx : a.eval x = key)
    {ka : AV} (rk : VRel s ka key) {r : Option AV} (hf : findAV kd ka es = some r) (hK : ∀ v, VRel s (r.getD z) v → wpList P ops Q rest (a.put o.dst (.tuple #[v, .bool r.isSome])) w) : wpList P ops Q (o :: rest) a w := by
  refine wpList_plain hg fun K' hK' => ?_
  obtain ⟨v, hrun, hv⟩ := hb.lookup ht hz rk hf
  unfold Oper.wp
  simp [execOp, hop, hm, hx, hrun, Result.andThen]
  exact hK' _ _ (hK v hv)
end
end Go.Abs
namespace Go.Proofs.Ytcnmodnafnadlaa
set_option maxRecDepth 100000
open Go Go.Abs Go.Shelf Go.Proofs Go.RowKit Go.Maps Go.Sort
set_option linter.unusedSimpArgs false
set_option linter.unusedVariables false
theorem agg5 {s : Sg} {d : Dec} {v : Value} (h : VRel s (stD d) v) : v = g5 d := by
  obtain ⟨vs, rfl, hr⟩ := h.st_inv
  obtain ⟨v0, q0, t0⟩ := hr.at_ (j := 0) rfl
  obtain ⟨rfl, _⟩ := t0.int_inv
  obtain ⟨v1, q1, t1⟩ := hr.at_ (j := 1) rfl
  obtain ⟨rfl, _⟩ := t1.int_inv
  obtain ⟨v2, q2, t2⟩ := hr.at_ (j := 2) rfl
  obtain ⟨rfl, _⟩ := t2.int_inv
  obtain ⟨v3, q3, t3⟩ := hr.at_ (j := 3) rfl
  obtain ⟨rfl, _⟩ := t3.int_inv
  obtain ⟨v4, q4, t4⟩ := hr.at_ (j := 4) rfl
  obtain ⟨rfl, _⟩ := t4.int_inv
  match vs, hr.1, q0, q1, q2, q3, q4 with
  | [a, b, c, d, e], _, h0, h1, h2, h3, h4 => simp at h0 h1 h2 h3 h4; simp [g5, h0, h1, h2, h3, h4]
/-- Two ledgers that contradict one another. -/
def Conf (M N : List Dec) : Prop := ∃ d ∈ N, ∃ o ∈ M, o.mk2 = d.mk2 ∧ o ≠ d
inductive JR (s : Sg) (w : World) (cl : Nat) (M : List Dec) (W : List (Int × Int)) (N : List Dec) (V : List (Int × Int)) (e : Ending) (w' : World) : Prop where
  | conf (h : Conf M N) (he : e = .returned (.int .i64 10)) (hl : w.grownBy w' none)
  | full (xs : List Dec) (ys : List (Int × Int)) (h : ¬ Conf M N) (hx : xs.Perm N) (hy : ys.Perm V) (hf : 200 < (uniD M xs).length ∨ 200 < (uniM W ys).length) (he : e = .returned (.int .i64 6)) (hl : w.grownBy w' none)
  | ok (xs : List Dec) (ys : List (Int × Int)) (g1 g2 : Nat) (w1 : World) (h : ¬ Conf M N) (hx : xs.Perm N) (hy : ys.Perm V) (h1 : (uniD M xs).length ≤ 200) (h2 : (uniM W ys).length ≤ 200) (he : e = .returned (.int .i64 0)) (hl : w.grownBy w1 none)
      (b1 : w.heap.size ≤ g1) (b2 : w.heap.size ≤ g2) (hne : g1 ≠ g2) (m1 : MpAt s w1 g1 (enD (uniD M xs))) (m2 : MpAt s w1 g2 (enM (uniM W ys))) (hw : w' = (w1.setCell ⟨cl, 0, none⟩ (.map (some g1))).setCell ⟨cl, 1, none⟩ (.map (some g2)))
theorem uniD_snoc (M xs : List Dec) (d : Dec) : uniD M (xs ++ [d]) = if ∃ o ∈ uniD M xs, o.mk2 = d.mk2 then uniD M xs else uniD M xs ++ [d] := by unfold uniD; rw [List.foldl_append]; rfl
theorem uniD_cons (M xs : List Dec) (d : Dec) : uniD M (d :: xs) = uniD (if ∃ o ∈ M, o.mk2 = d.mk2 then M else M ++ [d]) xs := rfl
theorem uniD_sub : ∀ {xs M : List Dec} {x : Dec}, x ∈ M → x ∈ uniD M xs := by
  intro xs
  induction xs with
  | nil => exact fun h => h
  | cons d xs ih =>
    intro M x h
    rw [uniD_cons]
    refine ih ?_
    split
    · exact h
    · exact List.mem_append_left _ h
theorem uniD_mem : ∀ {xs M : List Dec} {x : Dec}, x ∈ uniD M xs → x ∈ M ∨ x ∈ xs := by
  intro xs
  induction xs with
  | nil => exact fun h => .inl h
  | cons d xs ih =>
    intro M x h
    rw [uniD_cons] at h
    rcases ih h with h | h
    · split at h
      · exact .inl h
      · rcases List.mem_append.1 h with h | h
        · exact .inl h
        · exact .inr (by rw [List.mem_singleton.1 h]; exact List.mem_cons_self)
    · exact .inr (List.mem_cons_of_mem _ h)
theorem uniD_dst : ∀ {xs M : List Dec}, Dst M → Dst (uniD M xs) := by
  intro xs
  induction xs with
  | nil => exact fun h => h
  | cons d xs ih =>
    intro M h
    rw [uniD_cons]
    refine ih ?_
    split
    · exact h
    · rename_i hn
      exact dst_snoc h fun x hx e => hn ⟨x, hx, e⟩
theorem updD {d : Dec} : ∀ {M : List Dec}, (∀ o ∈ M, o.mk2 = d.mk2 → o = d) → updAV (some 2) (stM d.mk2) (stD d) (enD M) = some (enD (if ∃ o ∈ M, o.mk2 = d.mk2 then M else M ++ [d])) := by
  intro M hM
  by_cases h : ∃ o ∈ M, o.mk2 = d.mk2
  · rw [if_pos h]
    induction M with
    | nil => obtain ⟨o, ho, _⟩ := h; cases ho
    | cons x M ih =>
      have e : enD (x :: M) = (stM x.mk2, stD x) :: enD M := rfl
      rw [e, updAV, key_st]
      by_cases h2 : d.mk2 = x.mk2
      · rw [decide_eq_true h2, hM x List.mem_cons_self h2.symm]
      · rw [decide_eq_false h2]
        simp only
        obtain ⟨o, ho, e2⟩ := h
        rcases List.mem_cons.1 ho with rfl | ho
        · exact absurd e2.symm h2
        rw [ih (fun o ho => hM o (List.mem_cons_of_mem _ ho)) ⟨o, ho, e2⟩]
        rfl
  · rw [if_neg h]
    exact upd_enD fun x hx e => h ⟨x, hx, e⟩
theorem _root_.Go.Abs.MpAt.alloc {s : Sg} {w : World} {c : Nat} {es : List (AV × AV)} (k : MpAt s w c es) (o : Obj) : MpAt s (w.alloc o) c es := k.heap (Below.heap_alloc _ _ _ k.lt)
theorem _root_.Go.Abs.MpAt.len {P : Program} {s : Sg} {w : World} {c : Nat} {es : List (AV × AV)} (m : MpAt s w c es) {t k e : TypeId} (ht : P.underlying t = some (.map k e)) (ty : TypeId) : (Builtin.len_ #[t] ty #[.map (some c)]).run P w = .ok (.int .i64 es.length) w := by
  obtain ⟨mes, ck, a2, a3, _⟩ := m
  have hml : mes.size = es.length := by rw [← a3.1]; simp
  simp [Builtin.len_, run_underlying ht, MapKept.run_getObj_map a2, goInt, Result.andThen, hml]
end Go.Proofs.Ytcnmodnafnadlaa
namespace Go.Proofs.Ytcnmodnafnadlaa
set_option maxRecDepth 100000
open Go Go.Abs Go.Shelf Go.Proofs Go.RowKit Go.Maps Go.Sort
set_option linter.unusedSimpArgs false
set_option linter.unusedVariables false
set_option maxHeartbeats 4000000 in
theorem c_Join (s : Sg) (w : World) (cl co c1 c2 d1 d2 : Nat) (tl tc : TypeId) (ws us : Array Value) (M : List Dec) (W : List (Int × Int)) (N : List Dec) (V : List (Int × Int))
    (hl : w.heap[cl]? = some (.cells ws tl (0, 0))) (l0 : ws[0]? = some (.map (some c1))) (l1 : ws[1]? = some (.map (some c2))) (ho : w.heap[co]? = some (.cells us tc (0, 0))) (o0 : us[0]? = some (.map (some d1))) (o1 : us[1]? = some (.map (some d2)))
    (m1 : MpAt s w c1 (enD M)) (m2 : MpAt s w c2 (enM W)) (n1 : MpAt s w d1 (enD N)) (n2 : MpAt s w d2 (enM V)) (hM : Dst M) (hND : Dst N) :
    Calls Try.prog 28 #[.pointer (some ⟨cl, 0, none⟩), .pointer (some ⟨co, 0, none⟩)] w fun e w' => JR s w cl M W N V e w' := by
  have hcl : cl < w.heap.size := (Array.getElem?_eq_some_iff.1 hl).1
  have hco : co < w.heap.size := (Array.getElem?_eq_some_iff.1 ho).1
  have hc1 := m1.lt
  have hc2 := m2.lt
  have hd1 := n1.lt
  have hd2 := n2.lt
  obtain ⟨ames, ack, a1, a2, a3, a4⟩ := m1
  obtain ⟨bmes, bck, b1, b2, b3, b4⟩ := m2
  have f0 : w.cell? ⟨cl, 0, none⟩ = some (.map (some c1)) := by simp [World.cell?, hl, l0]
  have f1 : w.cell? ⟨cl, 1, none⟩ = some (.map (some c2)) := by simp [World.cell?, hl, l1]
  have hmt : mapT Try.prog 58 = some (33, 31, some 2) := by kernel_rfl
  have hzt : zeroV Try.prog 31 = some (stD dD) := by kernel_rfl
  have hmix : Try.prog.follows .mixedOrders = true := by kernel_rfl
  go_enter Try.func28, Try.ntmps28
  go_wp2
  obtain ⟨KR, hKR⟩ : ∃ KR : Act → World → Prop, KR = fun a' w' => a' = { tmps := List.toArray (.pointer (some ⟨cl, 0, none⟩) :: .pointer (some ⟨co, 0, none⟩) :: undef :: undef :: .int .i64 0 :: .map (some w.heap.size) :: .map (some (w.heap.size + 1)) :: undef :: undef :: undef :: undef :: .pointer (some ⟨cl, 0, none⟩) :: .bool false :: .bool false :: .pointer (some ⟨co, 0, none⟩) :: .bool false :: .bool false :: .pointer (some ⟨cl, 0, none⟩) :: .pointer (some ⟨cl, 0, none⟩) :: .pointer (some ⟨cl, 0, none⟩) :: .map (some c1) :: .map (some w.heap.size) :: .pointer (some ⟨cl, 0, none⟩) :: .pointer (some ⟨cl, 0, none⟩) :: .pointer (some ⟨cl, 1, none⟩) :: .map (some c2) :: .map (some (w.heap.size + 1)) :: undef :: undef :: undef :: undef :: undef :: undef :: undef :: undef :: undef :: undef :: undef :: undef :: undef :: undef :: undef :: undef :: undef :: undef :: undef :: undef :: undef :: undef :: undef :: undef :: undef :: undef :: undef :: undef :: undef :: undef :: undef :: undef :: undef :: undef :: undef :: undef :: undef :: undef :: undef :: undef :: undef :: undef :: undef :: undef :: undef :: undef :: undef :: []), defers := [] } ∧ w' = ((w.alloc (.map ames ack)).alloc (.map bmes bck)).drew := ⟨_, rfl⟩
  refine Code.wp_mono (Q := Exit.then KR (fun _ _ _ => False)) ?_ ?_
  rotate_left
  · go_region_with (first
      | (go_at_call 52; refine (c_Clone c1 ames ack _ (by exact a1)).mono ?_; rintro e w' ⟨rfl, rfl⟩)
      | (go_at_call 53; refine (c_CloneM c2 bmes bck _ (by exact (Below.heap_alloc _ _ _ hc2).trans b1)).mono ?_; rintro e w' ⟨rfl, rfl⟩))
    all_goals (show KR _ _; rw [hKR]; exact ⟨rfl, rfl⟩)
  intro e a' w' hh
  cases e with
  | normal =>
    replace hh : KR a' w' := hh
    rw [hKR] at hh
    obtain ⟨rfl, rfl⟩ := hh
    clear hKR
    have hg1 : w.grownBy ((w.alloc (.map ames ack)).alloc (.map bmes bck)).drew none := by
      have k := (World.grownBy_alloc w (.map ames ack) none).andThen (World.grownBy_alloc (w.alloc (.map ames ack)) (.map bmes bck) none) (fun j hj => by cases hj)
      exact ⟨k.os, k.tape, k.output, k.size, k.block⟩
    have q1 : MpAt s ((w.alloc (.map ames ack)).alloc (.map bmes bck)).drew w.heap.size (enD M) := ⟨ames, ack, (Below.heap_alloc _ _ _ (by rw [World.size_alloc]; omega)).trans (World.alloc_heap_new w _), a2, a3, a4⟩
    have q2 : MpAt s ((w.alloc (.map ames ack)).alloc (.map bmes bck)).drew (w.heap.size + 1) (enM W) := ⟨bmes, bck, by have := World.alloc_heap_new (w.alloc (.map ames ack)) (.map bmes bck); rw [World.size_alloc] at this; exact this, b2, b3, b4⟩
    have hsz : (((w.alloc (.map ames ack)).alloc (.map bmes bck)).drew).heap.size = w.heap.size + 2 := by
      show (((w.alloc (.map ames ack)).alloc (.map bmes bck))).heap.size = _
      rw [World.size_alloc, World.size_alloc]
    generalize ((w.alloc (.map ames ack)).alloc (.map bmes bck)).drew = W1 at hg1 q1 q2 hsz ⊢
    have ho1 : W1.heap[co]? = some (.cells us tc (0, 0)) := (hg1.block co hco (fun e => by cases e)).trans ho
    have p0 : W1.cell? ⟨co, 0, none⟩ = some (.map (some d1)) := by simp [World.cell?, ho1, o0]
    obtain ⟨dmes, dck, e1, e2, e3, e4⟩ := n1
    have hd1' : W1.heap[d1]? = some (.map dmes dck) := (hg1.block d1 hd1 (fun e => by cases e)).trans e1
    obtain ⟨T, hT, hT2, hTv⟩ := zip_ent (fun d : Dec => (stM d.mk2, stD d)) e2

    go_wp2_with (first
      | (at_range; refine wpList_range_raw _ rfl _ 58 rfl 33 31 Try.underlying58 d1 dmes dck rfl hd1' ?_)
      | go_in)
    try go_frame
    try rw [hsz]
    have hg2 : w.grownBy (W1.alloc (.mapIter (some d1) dck #[] dck)) none := hg1.andThen (World.grownBy_alloc W1 _ none) (fun j hj => by cases hj)
    have hi0 : (W1.alloc (.mapIter (some d1) dck #[] dck)).heap[w.heap.size + 2]? = some (.mapIter (some d1) dck #[] dck) := by rw [← hsz]; exact World.alloc_heap_new W1 _
    have hd0 : (W1.alloc (.mapIter (some d1) dck #[] dck)).heap[d1]? = some (.map dmes dck) := (hg2.block d1 hd1 (fun e => by cases e)).trans e1
    have q1' : MpAt s (W1.alloc (.mapIter (some d1) dck #[] dck)) w.heap.size (enD M) := q1.heap (Below.heap_alloc _ _ _ q1.lt)
    have q2' : MpAt s (W1.alloc (.mapIter (some d1) dck #[] dck)) (w.heap.size + 1) (enM W) := q2.heap (Below.heap_alloc _ _ _ q2.lt)
    have hT3 : ∀ x ∈ T, x.2 ∈ N := fun x hx => by rw [← hT2]; exact List.mem_map_of_mem hx
    go_loopw [7, 8, 9, 10] (fun _ _ _ _ wr => ∃ (got : List (MapEntry × Dec)) (seen : Array Nat) (c0 : Nat), MIt T got seen ∧ wr.heap[w.heap.size + 2]? = some (.mapIter (some d1) dck seen c0) ∧ dck ≤ c0 ∧ wr.heap[d1]? = some (.map dmes dck) ∧ MpAt s wr w.heap.size (enD (uniD M (got.map (·.2)))) ∧ MpAt s wr (w.heap.size + 1) (enM W) ∧ (∀ x ∈ got, ∀ o ∈ M, o.mk2 = x.2.mk2 → o = x.2) ∧ w.grownBy wr none)
      (fun _ _ _ _ wr => dmes.size - iterSeen wr (w.heap.size + 2))
    case atStart => exact ⟨[], #[], dck, MIt.start T, hi0, Nat.le_refl _, hd0, q1', q2', (fun x hx => by cases hx), hg2⟩
    case round =>
      obtain ⟨got, seen, c0, hM', hir, hck, hcr, h1r, h2r, hcf, hgr⟩ := hrel
      go_wp2_with (first
        | (at_next; refine wpList_next_raw _ rfl _ rfl (w.heap.size + 2) d1 dck c0 seen dmes dck rfl hir hcr e3 hck ?_ ?_)
        | go_in)
      · intro hz
        have hperm : (got.map (·.2)).Perm N := by rw [← hT2]; exact (hM'.done hT e4 hz).map _
        have hno : ¬ Conf M N := by
          rintro ⟨d, hd, o, ho, e, hne⟩
          obtain ⟨q, hq, rfl⟩ := List.mem_map.1 (hperm.mem_iff.2 hd)
          exact hne (hcf q hq o ho e)
        have hv2 : MpAt s wr d2 (enM V) := n2.heap (hgr.block d2 hd2 (fun e => by cases e))
        have hor : wr.heap[co]? = some (.cells us tc (0, 0)) := (hgr.block co hco (fun e => by cases e)).trans ho
        have p1 : wr.cell? ⟨co, 1, none⟩ = some (.map (some d2)) := by simp [World.cell?, hor, o1]
        go_wp2_with (first
          | (go_at_call 54; refine (c_Copy s _ (w.heap.size + 1) d2 W V h2r hv2 (by omega)).mono ?_; rintro e w5 ⟨rfl, ys, hys, hm5, hg5⟩; have hn5 : MpAt s w5 w.heap.size (enD (uniD M (got.map (·.2)))) := h1r.heap (hg5.block _ h1r.lt (fun e => by have := Option.some.inj e; omega)); have hn6 := hn5.len (P := Try.prog) Try.underlying58 3; have hm6 := hm5.len (P := Try.prog) Try.underlying59 3; rw [enD_len] at hn6; rw [enM_len] at hm6; have hl5 : w5.heap[cl]? = some (.cells ws tl (0, 0)) := (hg5.block cl (by have := hgr.size; omega) (fun e => by have := Option.some.inj e; omega)).trans ((hgr.block cl hcl (fun e => by cases e)).trans hl); have x0 : w5.cell? ⟨cl, 0, none⟩ = some (.map (some c1)) := (by simp [World.cell?, hl5, l0]); have x1 : w5.cell? ⟨cl, 1, none⟩ = some (.map (some c2)) := (by simp [World.cell?, hl5, l1]); have y0 : w5.frozen? ⟨cl, 0, none⟩ = false := (by simp [World.frozen?, hl5]); have y1 : w5.frozen? ⟨cl, 1, none⟩ = false := (by simp [World.frozen?, hl5]))
          | go_in)
        all_goals
          have hgw : w.grownBy w5 none := hgr.andThen hg5 (fun j hj => .inl (by cases hj; omega))
          first
            | (go_ret; exact .ok (got.map (·.2)) ys w.heap.size (w.heap.size + 1) w5 hno hperm hys (by omega) (by omega) rfl hgw (Nat.le_refl _) (Nat.le_succ _) (by omega) hn5 hm5 rfl)
            | (go_ret; exact .full (got.map (·.2)) ys hno hperm hys (by omega) rfl hgw)
      · intro x W2 hN
        obtain ⟨y, hy1, hM2, hlt⟩ := hM'.step hT hN.mem
        obtain ⟨rk, rv⟩ := hTv _ hy1
        simp only at rk rv
        have hxk := agg2 rk
        have hxv := agg5 rv
        have hg3 := hN.grown
        have hir2 := hN.same
        have hcr2 : W2.heap[d1]? = some (.map dmes dck) := (hg3.block d1 (Array.getElem?_eq_some_iff.1 hcr).1 (fun e => by have := Option.some.inj e; omega)).trans hcr
        have h1r2 : MpAt s W2 w.heap.size (enD (uniD M (got.map (·.2)))) := h1r.heap (hg3.block _ h1r.lt (fun e => by have := Option.some.inj e; omega))
        have h2r2 : MpAt s W2 (w.heap.size + 1) (enM W) := h2r.heap (hg3.block _ h2r.lt (fun e => by have := Option.some.inj e; omega))
        have hxm : x ∈ dmes.toList := (mem_leftOf.1 hN.mem).1
        have hen := run_entry_at (P := Try.prog) W2 (w.heap.size + 2) d1 dck seen dmes dck x hir2 hcr2 hxm e4
        rw [hxk] at rk
        rw [hxv] at rv
        rw [hxk, hxv] at hen ⊢
        unfold g2 at hen rk ⊢
        unfold g5 at hen rv ⊢
        have hs2 : ∀ x ∈ got.map (·.2), x ∈ N := fun x hx => by
          obtain ⟨q, hq, rfl⟩ := List.mem_map.1 hx
          exact hT3 q (hM'.sub q hq)
        have hyN : y ∈ N := hT3 _ hy1
        have hUd : Dst (uniD M (got.map (·.2))) := uniD_dst hM
        generalize hU : uniD M (got.map (·.2)) = U at h1r2 hUd
        have hMU : ∀ o ∈ M, o ∈ U := fun o ho => by rw [← hU]; exact uniD_sub ho
        have hgc : ∀ A B C : Obj, w.grownBy (((W2.alloc A).alloc B).alloc C) none := fun A B C =>
          (((hgr.andThen hg3 (fun j hj => .inl (by cases hj; omega))).andThen (World.grownBy_alloc W2 A none) (fun j hj => by cases hj)).andThen (World.grownBy_alloc (W2.alloc A) B none) (fun j hj => by cases hj)).andThen (World.grownBy_alloc ((W2.alloc A).alloc B) C none) (fun j hj => by cases hj)
        cases hf : U.find? (fun d => decide (y.mk2 = d.mk2)) with
        | none =>
          have hfa : findAV (some 2) (stM y.mk2) (enD U) = some none := by rw [find_enD, hf]; rfl
          have hcu : ∀ o ∈ U, o.mk2 = y.mk2 → o = y := fun o ho e => absurd e (find_none hf o ho)
          go_wp2_with (first
            | (at_lookup; refine wpList_lookup_raw _ s rfl _ _ 58 rfl hmt hzt w.heap.size (enD U) rfl ((h1r2.alloc _).alloc _) _ rfl rk hfa ?_; intro v hv; rw [show v = g5 dD from agg5 hv]; clear hv; unfold g5; simp only [Option.isSome_none])
            | (at_mapUpdate; refine wpList_mapUpdate_raw _ s rfl _ _ _ 58 rfl hmt w.heap.size (enD U) _ rfl (((h1r2.alloc _).alloc _).alloc _) _ _ rfl rfl rk rv (updD hcu) ?_; intro W3 hU3; try go_frame)
            | go_in)
          have hg4 := hU3.grown
          have hl2 : w.heap.size + 2 < W2.heap.size := (Array.getElem?_eq_some_iff.1 hir2).1
          have hl3 : d1 < W2.heap.size := (Array.getElem?_eq_some_iff.1 hcr2).1
          have hb4 : ∀ k, k < W2.heap.size → k ≠ w.heap.size → W3.heap[k]? = W2.heap[k]? := fun k hk hne => by
            refine (hg4.block k (by rw [World.size_alloc, World.size_alloc, World.size_alloc]; omega) (fun e => hne (Option.some.inj e))).trans ?_
            rw [Below.heap_alloc _ _ k (by rw [World.size_alloc, World.size_alloc]; omega), Below.heap_alloc _ _ k (by rw [World.size_alloc]; omega), Below.heap_alloc _ _ k hk]
          go_roundw
          case rel =>
            refine ⟨got ++ [(x, y)], _, dck, hM2, (hb4 _ hl2 (by omega)).trans hir2, Nat.le_refl _, (hb4 _ hl3 (by omega)).trans hcr2, ?_, h2r2.heap (hb4 _ h2r2.lt (by omega)), ?_, ?_⟩
            · rw [List.map_append, List.map_singleton, uniD_snoc, hU]
              exact hU3.at_
            · intro x' hx' o' ho' e'
              rcases List.mem_append.1 hx' with hx' | hx'
              · exact hcf x' hx' o' ho' e'
              · rw [List.mem_singleton.1 hx'] at e' ⊢
                exact hcu o' (hMU o' ho') e'
            · have k3 := World.grownBy_alloc W2 (.cells #[.int .i64 y.mk2.1, .int .i64 y.mk2.2] 33) none
              have k2 := hgr.andThen hg3 (fun j hj => .inl (by cases hj; omega))
              refine ⟨hg4.os.trans k2.os, hg4.tape.trans k2.tape, hg4.output.trans k2.output, ?_, fun k hk _ => ?_⟩
              · have := hg4.size
                rw [World.size_alloc, World.size_alloc, World.size_alloc] at this
                have := k2.size
                omega
              · have := k2.size
                exact (hb4 k (by omega) (by omega)).trans (k2.block k hk (fun e => by cases e))
          case measure =>
            rw [iterSeen_eq ((hb4 _ hl2 (by omega)).trans hir2), iterSeen_eq hir, Array.size_push]
            have h1 : seen.size = got.length := by rw [← Array.length_toList, hM'.seen, List.length_map]
            have h2 : dmes.size = T.length := by rw [← Array.length_toList, ← hT, List.length_map]
            omega
        | some o =>
          have hfa : findAV (some 2) (stM y.mk2) (enD U) = some (some (stD o)) := by rw [find_enD, hf]; rfl
          obtain ⟨hoU, hok⟩ := find_some hf
          by_cases hoy : o = y
          · subst hoy
            have hcu : ∀ o' ∈ U, o'.mk2 = o.mk2 → o' = o := fun o' ho' e => dst_uniq hUd ho' hoU e
            go_wp2_with (first
              | (at_lookup; refine wpList_lookup_raw _ s rfl _ _ 58 rfl hmt hzt w.heap.size (enD U) rfl ((h1r2.alloc _).alloc _) _ rfl rk hfa ?_; intro v hv; rw [show v = g5 o from agg5 hv]; clear hv; unfold g5; simp only [Option.isSome_some])
              | (at_mapUpdate; refine wpList_mapUpdate_raw _ s rfl _ _ _ 58 rfl hmt w.heap.size (enD U) _ rfl (((h1r2.alloc _).alloc _).alloc _) _ _ rfl rfl rk rv (updD hcu) ?_; intro W3 hU3; try go_frame)
              | go_in)
            have hg4 := hU3.grown
            have hl2 : w.heap.size + 2 < W2.heap.size := (Array.getElem?_eq_some_iff.1 hir2).1
            have hl3 : d1 < W2.heap.size := (Array.getElem?_eq_some_iff.1 hcr2).1
            have hb4 : ∀ k, k < W2.heap.size → k ≠ w.heap.size → W3.heap[k]? = W2.heap[k]? := fun k hk hne => by
              refine (hg4.block k (by rw [World.size_alloc, World.size_alloc, World.size_alloc]; omega) (fun e => hne (Option.some.inj e))).trans ?_
              rw [Below.heap_alloc _ _ k (by rw [World.size_alloc, World.size_alloc]; omega), Below.heap_alloc _ _ k (by rw [World.size_alloc]; omega), Below.heap_alloc _ _ k hk]
            go_roundw
            case rel =>
              refine ⟨got ++ [(x, o)], _, dck, hM2, (hb4 _ hl2 (by omega)).trans hir2, Nat.le_refl _, (hb4 _ hl3 (by omega)).trans hcr2, ?_, h2r2.heap (hb4 _ h2r2.lt (by omega)), ?_, ?_⟩
              · rw [List.map_append, List.map_singleton, uniD_snoc, hU]
                exact hU3.at_
              · intro x' hx' o' ho' e'
                rcases List.mem_append.1 hx' with hx' | hx'
                · exact hcf x' hx' o' ho' e'
                · rw [List.mem_singleton.1 hx'] at e' ⊢
                  exact hcu o' (hMU o' ho') e'
              · have k3 := World.grownBy_alloc W2 (.cells #[.int .i64 o.mk2.1, .int .i64 o.mk2.2] 33) none
                have k2 := hgr.andThen hg3 (fun j hj => .inl (by cases hj; omega))
                refine ⟨hg4.os.trans k2.os, hg4.tape.trans k2.tape, hg4.output.trans k2.output, ?_, fun k hk _ => ?_⟩
                · have := hg4.size
                  rw [World.size_alloc, World.size_alloc, World.size_alloc] at this
                  have := k2.size
                  omega
                · have := k2.size
                  exact (hb4 k (by omega) (by omega)).trans (k2.block k hk (fun e => by cases e))
            case measure =>
              rw [iterSeen_eq ((hb4 _ hl2 (by omega)).trans hir2), iterSeen_eq hir, Array.size_push]
              have h1 : seen.size = got.length := by rw [← Array.length_toList, hM'.seen, List.length_map]
              have h2 : dmes.size = T.length := by rw [← Array.length_toList, ← hT, List.length_map]
              omega
          · go_wp2_with (first
              | (at_lookup; refine wpList_lookup_raw _ s rfl _ _ 58 rfl hmt hzt w.heap.size (enD U) rfl ((h1r2.alloc _).alloc _) _ rfl rk hfa ?_; intro v hv; rw [show v = g5 o from agg5 hv]; clear hv; unfold g5; simp only [Option.isSome_some])
              | go_in)
            all_goals first
              | exact absurd (Dec.ext' ⟨by assumption, by assumption, by assumption, by assumption, by assumption⟩) hoy
              | (go_ret; exact .conf ⟨y, hyN, o, (uniD_mem (by rw [hU]; exact hoU)).resolve_right (fun hoN => hoy (dst_uniq hND (hs2 o hoN) hyN hok)), hok, hoy⟩ rfl (hgc _ _ _))
  | _ => exact hh.elim
end Go.Proofs.Ytcnmodnafnadlaa
namespace Go.Abs
open Go
theorem setCell_row {w : World} {c : Nat} {vs : Array Value} {e : TypeId} {fr : Nat × Nat} (hg : w.heap[c]? = some (.cells vs e fr)) (o : Nat) (v : Value) : w.setCell ⟨c, o, none⟩ v = w.setRow c (vs.setIfInBounds o v) := by
  have hlt : c < w.heap.size := (Array.getElem?_eq_some_iff.1 hg).1
  have hv : w.heap[c] = .cells vs e fr := (Array.getElem?_eq_some_iff.1 hg).2
  unfold World.setCell World.setRow
  congr 1
  apply Array.ext
  · simp
  · intro i h1 h2
    simp only [Array.getElem_modify]
    split
    · rename_i h; subst h; rw [hv]; try rfl
    · rfl
theorem sib_self {vs : Array Value} {o : Nat} (v : Value) (h : o < vs.size) : (vs.setIfInBounds o v)[o]? = some v := by simp [h]
theorem sib_ne {vs : Array Value} {o j : Nat} {v : Value} (h : o ≠ j) : (vs.setIfInBounds o v)[j]? = vs[j]? := by simp [h]
theorem MpAt.mono {s s' : Sg} (h : s.le s') {w : World} {c : Nat} {es : List (AV × AV)} (k : MpAt s w c es) : MpAt s' w c es := by
  obtain ⟨mes, ck, a, b, c, d⟩ := k
  exact ⟨mes, ck, a, b.mono h, c, d⟩
theorem Later.of_grown {w w' : World} (h : w.grownBy w' none) : Later w w' := ⟨fun k hk => h.block k hk (fun e => by cases e), h.size, h.os, h.tape, h.output⟩
end Go.Abs
namespace Go.Proofs.Ytcnmodnafnadlaa
set_option maxRecDepth 100000
open Go Go.Abs Go.Shelf Go.Proofs Go.RowKit Go.Maps Go.Sort
set_option linter.unusedSimpArgs false
set_option linter.unusedVariables false
/-- The marks, and the decisions, of two ledgers. -/
theorem uniM_mem : ∀ {ys D : List (Int × Int)} {x : Int × Int}, x ∈ uniM D ys ↔ x ∈ D ∨ x ∈ ys := by
  intro ys
  induction ys with
  | nil => intro D x; simp [uniM]
  | cons m ys ih =>
    intro D x
    have e : uniM D (m :: ys) = uniM (if m ∈ D then D else D ++ [m]) ys := rfl
    rw [e, ih]
    by_cases h : m ∈ D
    · rw [if_pos h]
      constructor
      · rintro (h1 | h1)
        · exact .inl h1
        · exact .inr (List.mem_cons_of_mem _ h1)
      · rintro (h1 | h1)
        · exact .inl h1
        · rcases List.mem_cons.1 h1 with rfl | h1
          · exact .inl h
          · exact .inr h1
    · rw [if_neg h, List.mem_append, List.mem_singleton, List.mem_cons]
      exact or_assoc
theorem uniM_nd : ∀ {ys D : List (Int × Int)}, D.Nodup → (uniM D ys).Nodup := by
  intro ys
  induction ys with
  | nil => exact fun h => h
  | cons m ys ih =>
    intro D h
    have e : uniM D (m :: ys) = uniM (if m ∈ D then D else D ++ [m]) ys := rfl
    rw [e]
    refine ih ?_
    split
    · exact h
    · rename_i hm
      refine List.nodup_append.2 ⟨h, by simp, fun a ha b hb hab => ?_⟩
      rw [List.mem_singleton.1 hb] at hab
      exact hm (hab ▸ ha)
theorem uniD_has : ∀ {xs M : List Dec} {d : Dec}, d ∈ xs → ∃ o ∈ uniD M xs, o.mk2 = d.mk2 := by
  intro xs
  induction xs with
  | nil => intro M d h; cases h
  | cons x xs ih =>
    intro M d h
    rw [uniD_cons]
    rcases List.mem_cons.1 h with rfl | h
    · by_cases c : ∃ o ∈ M, o.mk2 = d.mk2
      · rw [if_pos c]
        obtain ⟨o, ho, e⟩ := c
        exact ⟨o, uniD_sub ho, e⟩
      · rw [if_neg c]
        exact ⟨d, uniD_sub (by simp), rfl⟩
    · exact ih h
instance (M N : List Dec) : Decidable (Conf M N) := by unfold Conf; infer_instance
theorem uniD_iff {M N xs : List Dec} (hN : Dst N) (hp : xs.Perm N) (hc : ¬ Conf M N) {d : Dec} : d ∈ uniD M xs ↔ d ∈ M ∨ d ∈ N := by
  constructor
  · intro h
    exact (uniD_mem h).imp id hp.mem_iff.1
  · rintro (h | h)
    · exact uniD_sub h
    · obtain ⟨o, ho, e⟩ := uniD_has (M := M) (hp.mem_iff.2 h)
      rcases uniD_mem ho with h2 | h2
      · by_cases e2 : o = d
        · rw [← e2]; exact ho
        · exact absurd ⟨d, h, o, h2, e, e2⟩ hc
      · rw [← dst_uniq hN (hp.mem_iff.1 h2) h e]; exact ho
theorem len_of_mem {α : Type} [DecidableEq α] {a b : List α} (ha : a.Nodup) (hb : b.Nodup) (h : ∀ x, x ∈ a ↔ x ∈ b) : a.length = b.length := ((List.perm_ext_iff_of_nodup ha hb).2 h).length_eq
theorem uniD_len {M N xs : List Dec} (hM : Dst M) (hN : Dst N) (hp : xs.Perm N) (hc : ¬ Conf M N) : (uniD M xs).length = (uniD M N).length :=
  len_of_mem (dst_nodup (uniD_dst hM)) (dst_nodup (uniD_dst hM)) fun x => (uniD_iff hN hp hc).trans (uniD_iff hN (.refl _) hc).symm
theorem uniM_len {W V ys : List (Int × Int)} (hW : W.Nodup) (hp : ys.Perm V) : (uniM W ys).length = (uniM W V).length :=
  len_of_mem (uniM_nd hW) (uniM_nd hW) fun x => by rw [uniM_mem, uniM_mem, hp.mem_iff]
/-- Two ledgers together. -/
def uni (s t : St) : St := (uniD s.1 t.1, uniM s.2 t.2)
def jn (s t : St) : Int := if Conf s.1 t.1 then 10 else if 200 < (uni s t).1.length ∨ 200 < (uni s t).2.length then 6 else 0
/-- u is s and t together. -/
structure Tog (s t u : St) : Prop where
  ok : OKs u
  m1 : ∀ d, d ∈ u.1 ↔ d ∈ s.1 ∨ d ∈ t.1
  m2 : ∀ m, m ∈ u.2 ↔ m ∈ s.2 ∨ m ∈ t.2
def newL (h : AH) (lb b1 b2 : Nat) (s : St) : AH := ((h.putM b1 (enD s.1)).putM b2 (enM s.2)).put lb [.map b1, .map b2]
set_option maxHeartbeats 1000000 in
theorem s_decision_Ledger_Join (la a1 a2 lb b1 b2 : Nat) (s t : St) (ok : OKs s) (ok2 : OKs t) (h : AH) (k : Led h la a1 a2 s) (k2 : Led h lb b1 b2 t) :
    ACalls Try.prog 28 [.ptr la 0, .ptr lb 0] h fun r g => r = I (jn s t) ∧ (jn s t ≠ 0 → g = h) ∧ (jn s t = 0 → ∃ u n1 n2, Tog s t u ∧ h.mp n1 = none ∧ h.mp n2 = none ∧ n1 ≠ n2 ∧ g = newL h la n1 n2 u) := by
  refine ⟨by kernel_rfl, fun sg vs w hv hs => ?_⟩
  obtain ⟨v0, q0, r0⟩ := hv.at_ (j := 0) rfl
  obtain ⟨v1, q1, r1⟩ := hv.at_ (j := 1) rfl
  have hvs : vs = [v0, v1] := by
    match vs, hv.1, q0, q1 with
    | [a, b], _, h0, h1 => simp at h0 h1; rw [h0, h1]
  subst hvs
  obtain ⟨cl, rfl, hcl⟩ := r0.ptr_inv
  obtain ⟨co, rfl, hco⟩ := r1.ptr_inv
  obtain ⟨cl', ws, tl, x1, x2, x3, x4, x5, x6⟩ := hs.blk la _ k.blk
  rw [hcl] at x1; cases x1
  obtain ⟨co', us, tc, y1, y2, y3, y4, y5, y6⟩ := hs.blk lb _ k2.blk
  rw [hco] at y1; cases y1
  obtain ⟨_, l0, _, l1⟩ := x4 0 _ rfl
  obtain ⟨c1, rfl, e1⟩ := l1.map_inv
  obtain ⟨_, l1', _, l2⟩ := x4 1 _ rfl
  obtain ⟨c2, rfl, e2⟩ := l2.map_inv
  obtain ⟨_, o0, _, o1⟩ := y4 0 _ rfl
  obtain ⟨d1, rfl, f1⟩ := o1.map_inv
  obtain ⟨_, o1', _, o2⟩ := y4 1 _ rfl
  obtain ⟨d2, rfl, f2⟩ := o2.map_inv
  obtain ⟨_, z1, m1⟩ := hs.mpAt k.m1
  rw [e1] at z1; cases z1
  obtain ⟨_, z2, m2⟩ := hs.mpAt k.m2
  rw [e2] at z2; cases z2
  obtain ⟨_, z3, n1⟩ := hs.mpAt k2.m1
  rw [f1] at z3; cases z3
  obtain ⟨_, z4, n2⟩ := hs.mpAt k2.m2
  rw [f2] at z4; cases z4
  have hmb : ∀ b, h.mp b ≠ none → ∀ c, sg.mb b = some c → c < w.heap.size := fun b hb c e => by
    cases hc : h.mp b with
    | none => exact absurd hc hb
    | some es' =>
      obtain ⟨d, ms, t, q1, q2, _⟩ := hs.mp b es' hc
      rw [e] at q1; cases q1
      exact lt_of_heap q2
  refine (c_Join sg w cl co c1 c2 d1 d2 tl tc ws us s.1 s.2 t.1 t.2 x2 l0 l1' y2 o0 o1' m1 m2 n1 n2 ok.dst ok2.dst).mono fun e w' hj => ?_
  cases hj with
  | conf hc he hg =>
    subst he
    have hj : jn s t = 10 := by unfold jn; rw [if_pos hc]
    rw [hj]
    exact ⟨sg, _, _, h, Sg.le.refl _, hs.later (.of_grown hg), rfl, .int _ _ (by rw [inR64]; omega), rfl, fun _ => rfl, fun e => absurd e (by decide)⟩
  | full xs ys hc hx hy hf he hg =>
    subst he
    have hj : jn s t = 6 := by
      unfold jn
      rw [if_neg hc, if_pos]
      rw [uniD_len ok.dst ok2.dst hx hc, uniM_len ok.nd hy] at hf
      exact hf
    rw [hj]
    exact ⟨sg, _, _, h, Sg.le.refl _, hs.later (.of_grown hg), rfl, .int _ _ (by rw [inR64]; omega), rfl, fun _ => rfl, fun e => absurd e (by decide)⟩
  | ok xs ys g1 g2 w1 hc hx hy h1 h2 he hg b1 b2 hne p1 p2 hw =>
    subst he
    have hj : jn s t = 0 := by
      unfold jn
      rw [if_neg hc, if_neg]
      rw [uniD_len ok.dst ok2.dst hx hc] at h1
      rw [uniM_len ok.nd hy] at h2
      unfold uni
      simp only
      omega
    rw [hj]
    have K1 := hs.later (.of_grown hg)
    obtain ⟨s1, i1, i2, i3, i4, i5⟩ := K1.newMapAt p1 (fun b hb e => by have := hmb b hb _ e; omega) b1
    obtain ⟨s2, j1, j2, j3, j4, j5⟩ := i2.newMapAt (p2.mono i1) (fun b hb e => by
      by_cases hbn : b = sg.nm
      · rw [hbn, i3] at e; exact hne (Option.some.inj e)
      · rw [i5 b hbn] at e
        rw [AH.mp_putM_ne _ _ hbn] at hb
        have := hmb b hb _ e; omega) b2
    have hnn : s1.nm ≠ sg.nm := fun e => by rw [e, AH.mp_putM] at j4; cases j4
    have hla : ((h.putM sg.nm (enD (uniD s.1 xs))).putM s1.nm (enM (uniM s.2 ys))).blk la = some [.map a1, .map a2] := k.blk
    have hgl : w1.heap[cl]? = some (.cells ws tl (0, 0)) := (hg.block cl (lt_of_heap x2) (fun e => by cases e)).trans x2
    have hs2 : s2.mb sg.nm = some g1 := j1.mb _ _ i3
    have x3q : 2 ≤ ws.size := x3
    have e1' : s2.mb a1 = some c1 := j1.mb _ _ (i1.mb _ _ e1)
    have e2' : s2.mb a2 = some c2 := j1.mb _ _ (i1.mb _ _ e2)
    have hcl2 : s2.blk la = some cl := j1.blk _ _ (i1.blk _ _ hcl)
    rw [setCell_row hgl] at hw
    have K2 := j2.setBlk (us := ws.setIfInBounds 0 (.map (some g1))) (cells' := [.map sg.nm, .map a2]) hla hcl2 hgl (by rw [Array.size_setIfInBounds]; exact x3) (fun j x hx => by
      match j, hx with
      | 0, hx => cases hx; exact ⟨_, sib_self _ (by omega), rfl, .map _ _ hs2⟩
      | 1, hx => cases hx; exact ⟨_, (sib_ne (by decide)).trans l1', rfl, .map _ _ e2'⟩)
    have hgl2 := setRow_heap w1 cl ws (ws.setIfInBounds 0 (.map (some g1))) tl _ hgl
    rw [setCell_row hgl2] at hw
    have K3 := K2.setBlk (us := (ws.setIfInBounds 0 (.map (some g1))).setIfInBounds 1 (.map (some g2))) (cells' := [.map sg.nm, .map s1.nm]) (AH.blk_put _ _ _) hcl2 hgl2 (by rw [Array.size_setIfInBounds, Array.size_setIfInBounds]; exact x3) (fun j x hx => by
      match j, hx with
      | 0, hx => cases hx; exact ⟨_, (sib_ne (by decide)).trans (sib_self _ (by omega)), rfl, .map _ _ hs2⟩
      | 1, hx => cases hx; exact ⟨_, sib_self _ (by rw [Array.size_setIfInBounds]; omega), rfl, .map _ _ j3⟩)
    rw [AH.put_put] at K3
    refine ⟨s2, _, _, _, i1.trans j1, by rw [hw]; exact K3, rfl, .int _ _ (by rw [inR64]; omega), rfl, fun e => absurd rfl e, fun _ => ⟨(uniD s.1 xs, uniM s.2 ys), sg.nm, s1.nm, ⟨⟨⟨h1, h2⟩, uniD_dst ok.dst, uniM_nd ok.nd⟩, fun d => uniD_iff ok2.dst hx hc, fun m => by simp only [uniM_mem, hy.mem_iff]⟩, i4, (AH.mp_putM_ne _ _ hnn).symm.trans j4, Ne.symm hnn, rfl⟩⟩
end Go.Proofs.Ytcnmodnafnadlaa
namespace Go.Proofs.Ytcnmodnafnadlaa
set_option maxRecDepth 100000
open Go Go.Abs Go.Shelf Go.Proofs Go.RowKit Go.Maps Go.Sort
set_option linter.unusedSimpArgs false
set_option linter.unusedVariables false
set_option maxHeartbeats 4000000 in
theorem c_LClone (w : World) (cl c1 c2 : Nat) (tl : TypeId) (ws : Array Value) (ames bmes : Array MapEntry) (ack bck : Nat)
    (hl : w.heap[cl]? = some (.cells ws tl (0, 0))) (l0 : ws[0]? = some (.map (some c1))) (l1 : ws[1]? = some (.map (some c2)))
    (a1 : w.heap[c1]? = some (.map ames ack)) (b1 : w.heap[c2]? = some (.map bmes bck)) :
    Calls Try.prog 30 #[.pointer (some ⟨cl, 0, none⟩)] w fun e w' => e = .returned (.pointer (some ⟨w.heap.size + 2, 0, none⟩)) ∧ w' = (((w.alloc (.map ames ack)).alloc (.map bmes bck)).alloc (.cells #[.map (some w.heap.size), .map (some (w.heap.size + 1))] 61 (0, 0))).drew := by
  have hc2 : c2 < w.heap.size := lt_of_heap b1
  have hcl : cl < w.heap.size := lt_of_heap hl
  have hc1 : c1 < w.heap.size := lt_of_heap a1
  have f0 : w.cell? ⟨cl, 0, none⟩ = some (.map (some c1)) := by simp [World.cell?, hl, l0]
  have f1 : w.cell? ⟨cl, 1, none⟩ = some (.map (some c2)) := by simp [World.cell?, hl, l1]
  have hmix : Try.prog.follows .mixedOrders = true := by kernel_rfl
  go_enter Try.func30, Try.ntmps30
  go_wp2
  go_region_with (first
    | (go_at_call 52; refine (c_Clone c1 ames ack _ (by exact a1)).mono ?_; rintro e w' ⟨rfl, rfl⟩)
    | (go_at_call 53; refine (c_CloneM c2 bmes bck _ (by exact (Below.heap_alloc _ _ _ hc2).trans b1)).mono ?_; rintro e w' ⟨rfl, rfl⟩))
  all_goals (go_wp2; go_ret; exact ⟨rfl, rfl⟩)
theorem c_Join_nil1 (w : World) (v : Value) : Calls Try.prog 28 #[.pointer none, v] w fun e w' => e = .returned (.int .i64 1) ∧ w' = w := by
  go_enter Try.func28, Try.ntmps28
  go_wp2
  go_ret
  exact ⟨rfl, rfl⟩
theorem c_Join_nil2 (w : World) (c : Nat) : Calls Try.prog 28 #[.pointer (some ⟨c, 0, none⟩), .pointer none] w fun e w' => e = .returned (.int .i64 1) ∧ w' = w := by
  go_enter Try.func28, Try.ntmps28
  go_wp2
  go_ret
  exact ⟨rfl, rfl⟩
/-- Clone. -/
theorem s_LClone (la a1 a2 : Nat) (s : St) (h : AH) (k : Led h la a1 a2 s) : ACalls Try.prog 30 [.ptr la 0] h fun r g => ∃ lb b1 b2, h.blk lb = none ∧ h.mp b1 = none ∧ h.mp b2 = none ∧ b1 ≠ b2 ∧ r = .ptr lb 0 ∧ g = newL h lb b1 b2 s := by
  refine ⟨by kernel_rfl, fun sg vs w hv hs => ?_⟩
  obtain ⟨v0, q0, r0⟩ := hv.at_ (j := 0) rfl
  have hvs : vs = [v0] := by
    match vs, hv.1, q0 with
    | [a], _, h0 => simp at h0; rw [h0]
  subst hvs
  obtain ⟨cl, rfl, hcl⟩ := r0.ptr_inv
  obtain ⟨cl', ws, tl, x1, x2, x3, x4, x5, x6⟩ := hs.blk la _ k.blk
  rw [hcl] at x1; cases x1
  obtain ⟨_, l0, _, l1⟩ := x4 0 _ rfl
  obtain ⟨c1, rfl, e1⟩ := l1.map_inv
  obtain ⟨_, l1', _, l2⟩ := x4 1 _ rfl
  obtain ⟨c2, rfl, e2⟩ := l2.map_inv
  obtain ⟨_, z1, m1⟩ := hs.mpAt k.m1
  rw [e1] at z1; cases z1
  obtain ⟨_, z2, m2⟩ := hs.mpAt k.m2
  rw [e2] at z2; cases z2
  obtain ⟨ames, ack, p1, p2, p3, p4⟩ := m1
  obtain ⟨bmes, bck, u1, u2, u3, u4⟩ := m2
  have hmb : ∀ b, h.mp b ≠ none → ∀ c, sg.mb b = some c → c < w.heap.size := fun b hb c e => by
    cases hc : h.mp b with
    | none => exact absurd hc hb
    | some es' =>
      obtain ⟨d, ms, t, q1, q2, _⟩ := hs.mp b es' hc
      rw [e] at q1; cases q1
      exact lt_of_heap q2
  refine (c_LClone w cl c1 c2 tl ws ames bmes ack bck x2 l0 l1' p1 u1).mono fun e w' hj => ?_
  obtain ⟨rfl, hw⟩ := hj
  have n1 : (w.alloc (.map ames ack)).heap.size = w.heap.size + 1 := World.size_alloc _ _
  have n2 : ((w.alloc (.map ames ack)).alloc (.map bmes bck)).heap.size = w.heap.size + 2 := by rw [World.size_alloc, n1]
  have L1 : Later w ((w.alloc (.map ames ack)).alloc (.map bmes bck)) := by
    have k := (World.grownBy_alloc w (.map ames ack) none).andThen (World.grownBy_alloc (w.alloc (.map ames ack)) (.map bmes bck) none) (fun j hj => by cases hj)
    exact .of_grown k
  have g1 : MpAt sg ((w.alloc (.map ames ack)).alloc (.map bmes bck)) w.heap.size (enD s.1) := ⟨ames, ack, (Below.heap_alloc _ _ _ (by rw [World.size_alloc]; omega)).trans (World.alloc_heap_new w _), p2, p3, p4⟩
  have g2 : MpAt sg ((w.alloc (.map ames ack)).alloc (.map bmes bck)) (w.heap.size + 1) (enM s.2) := ⟨bmes, bck, by have := World.alloc_heap_new (w.alloc (.map ames ack)) (.map bmes bck); rw [World.size_alloc] at this; exact this, u2, u3, u4⟩
  have K1 := hs.later L1
  obtain ⟨s1, i1, i2, i3, i4, i5⟩ := K1.newMapAt g1 (fun b hb e => by have := hmb b hb _ e; omega) (Nat.le_refl _)
  obtain ⟨s2, j1, j2, j3, j4, j5⟩ := i2.newMapAt (g2.mono i1) (fun b hb e => by
    by_cases hbn : b = sg.nm
    · rw [hbn, i3] at e; have := Option.some.inj e; omega
    · rw [i5 b hbn] at e
      rw [AH.mp_putM_ne _ _ hbn] at hb
      have := hmb b hb _ e; omega) (Nat.le_succ _)
  have hnn : s1.nm ≠ sg.nm := fun e => by rw [e, AH.mp_putM] at j4; cases j4
  have hs2 : s2.mb sg.nm = some w.heap.size := j1.mb _ _ i3
  generalize hW : (w.alloc (.map ames ack)).alloc (.map bmes bck) = W at *
  have L2 : Later W w' := by
    rw [hw]
    exact ⟨fun k hk => push_old W _ k hk, by show W.heap.size ≤ (W.heap.push _).size; simp, rfl, rfl, rfl⟩
  have hgw : w'.heap[w.heap.size + 2]? = some (.cells #[.map (some w.heap.size), .map (some (w.heap.size + 1))] 61 (0, 0)) := by
    rw [hw, ← n2]
    exact World.alloc_heap_new W _
  obtain ⟨s3, t1, t2, t3, t4⟩ := j2.newBlkAt L2 (by omega) hgw (cells := [.map sg.nm, .map s1.nm]) (by simp) (fun j x hx => by
    match j, hx with
    | 0, hx => cases hx; exact ⟨_, rfl, rfl, .map _ _ hs2⟩
    | 1, hx => cases hx; exact ⟨_, rfl, rfl, .map _ _ j3⟩)
  exact ⟨s3, _, _, _, (i1.trans j1).trans t1, t2, rfl, .ptr _ _ _ t3, s2.nb, sg.nm, s1.nm, t4, i4, (AH.mp_putM_ne _ _ hnn).symm.trans j4, Ne.symm hnn, rfl, rfl⟩
/-- Join of no ledger, and with none. -/
theorem s_Join_nil1 (v : AV) (h : AH) : ACalls Try.prog 28 [.nilp, v] h fun r g => r = I 1 ∧ g = h := by
  refine ⟨by kernel_rfl, fun sg vs w hv hs => ?_⟩
  obtain ⟨v0, q0, r0⟩ := hv.at_ (j := 0) rfl
  obtain ⟨v1, q1, r1⟩ := hv.at_ (j := 1) rfl
  have hvs : vs = [v0, v1] := by
    match vs, hv.1, q0, q1 with
    | [a, b], _, h0, h1 => simp at h0 h1; rw [h0, h1]
  subst hvs
  cases r0
  refine (c_Join_nil1 w v1).mono fun e w' hj => ?_
  obtain ⟨rfl, rfl⟩ := hj
  exact ⟨sg, _, _, h, Sg.le.refl _, hs, rfl, .int _ _ (by rw [inR64]; omega), rfl, rfl⟩
theorem s_Join_nil2 (la : Nat) (h : AH) : ACalls Try.prog 28 [.ptr la 0, .nilp] h fun r g => r = I 1 ∧ g = h := by
  refine ⟨by kernel_rfl, fun sg vs w hv hs => ?_⟩
  obtain ⟨v0, q0, r0⟩ := hv.at_ (j := 0) rfl
  obtain ⟨v1, q1, r1⟩ := hv.at_ (j := 1) rfl
  have hvs : vs = [v0, v1] := by
    match vs, hv.1, q0, q1 with
    | [a, b], _, h0, h1 => simp at h0 h1; rw [h0, h1]
  subst hvs
  cases r1
  obtain ⟨cl, rfl, hcl⟩ := r0.ptr_inv
  refine (c_Join_nil2 w cl).mono fun e w' hj => ?_
  obtain ⟨rfl, rfl⟩ := hj
  exact ⟨sg, _, _, h, Sg.le.refl _, hs, rfl, .int _ _ (by rw [inR64]; omega), rfl, rfl⟩
theorem c_LClone_nil (w : World) : Calls Try.prog 30 #[.pointer none] w fun e w' => e = .returned (.pointer none) ∧ w' = w := by
  go_enter Try.func30, Try.ntmps30
  go_wp2
  go_ret
  exact ⟨rfl, rfl⟩
theorem s_Clone_nil (h : AH) : ACalls Try.prog 30 [.nilp] h fun r g => r = .nilp ∧ g = h := by
  refine ⟨by kernel_rfl, fun sg vs w hv hs => ?_⟩
  obtain ⟨v0, q0, r0⟩ := hv.at_ (j := 0) rfl
  have hvs : vs = [v0] := by
    match vs, hv.1, q0 with
    | [a], _, h0 => simp at h0; rw [h0]
  subst hvs
  cases r0
  refine (c_LClone_nil w).mono fun e w' hj => ?_
  obtain ⟨rfl, rfl⟩ := hj
  exact ⟨sg, _, _, h, Sg.le.refl _, hs, rfl, .nilp, rfl, rfl⟩
end Go.Proofs.Ytcnmodnafnadlaa
namespace Go.Proofs.Ytcnmodnafnadlaa
open Go Go.Abs
set_option linter.unusedSimpArgs false
set_option linter.unusedVariables false
set_option maxRecDepth 20000

theorem asc_dst {D : List Dec} (h : D.Pairwise ltD) : Dst D := h.imp fun {a b} hh e => by unfold ltD at hh; rw [e] at hh; exact mlt_irr _ hh
theorem conf_cons {D b : List Dec} {x : Dec} : Conf D (x :: b) ↔ (∃ o ∈ D, o.mk2 = x.mk2 ∧ o ≠ x) ∨ Conf D b := by
  unfold Conf
  constructor
  · rintro ⟨d, hd, o, ho, h⟩
    rcases List.mem_cons.1 hd with rfl | hd
    · exact .inl ⟨o, ho, h⟩
    · exact .inr ⟨d, hd, o, ho, h⟩
  · rintro (⟨o, ho, h⟩ | ⟨d, hd, o, ho, h⟩)
    · exact ⟨x, by simp, o, ho, h⟩
    · exact ⟨d, by simp [hd], o, ho, h⟩
theorem decF_res : ∀ (b D : List Dec), D.Pairwise ltD → Dst b → (Conf D b ∧ decF D b = none) ∨ (¬ Conf D b ∧ ∃ D', decF D b = some D' ∧ D'.Pairwise ltD ∧ ∀ x, x ∈ D' ↔ x ∈ D ∨ x ∈ b) := by
  intro b
  induction b with
  | nil => intro D hD _; exact .inr ⟨fun ⟨d, hd, _⟩ => (by cases hd), D, rfl, hD, fun x => by simp⟩
  | cons x b ih =>
    intro D hD hb
    obtain ⟨hb1, hb2⟩ := List.pairwise_cons.1 hb
    by_cases c : ∃ o ∈ D, o.mk2 = x.mk2
    · obtain ⟨o, ho, e⟩ := c
      have hi := insD_old hD ho e
      by_cases e2 : o = x
      · subst e2
        rw [if_pos rfl] at hi
        have hd : decF D (o :: b) = decF D b := by simp only [decF, hi]
        rw [hd]
        have hcc : Conf D (o :: b) ↔ Conf D b := by
          rw [conf_cons]
          exact ⟨fun hh => hh.elim (fun ⟨o', ho', e', hne⟩ => absurd (dst_uniq (asc_dst hD) ho' ho e') hne) id, .inr⟩
        rw [hcc]
        rcases ih D hD hb2 with h1 | ⟨h1, D', h2, h3, h4⟩
        · exact .inl h1
        · refine .inr ⟨h1, D', h2, h3, fun x => ?_⟩
          rw [h4, List.mem_cons]
          exact ⟨fun hh => hh.imp id .inr, fun hh => hh.elim .inl fun h5 => h5.elim (fun h6 => .inl (h6 ▸ ho)) .inr⟩
      · rw [if_neg e2] at hi
        exact .inl ⟨conf_cons.2 (.inl ⟨o, ho, e, e2⟩), by simp only [decF, hi]⟩
    · have hn : ∀ y ∈ D, y.mk2 ≠ x.mk2 := fun y hy e => c ⟨y, hy, e⟩
      obtain ⟨D1, d1, d2, _, d4⟩ := insD_new hD hn
      have hdx : decF D (x :: b) = decF D1 b := by simp only [decF, d1]
      rw [hdx]
      have hcc : Conf D (x :: b) ↔ Conf D1 b := by
        rw [conf_cons]
        constructor
        · rintro (⟨o, ho, e, _⟩ | ⟨d, hd, o, ho, h⟩)
          · exact absurd e (hn o ho)
          · exact ⟨d, hd, o, (d4 o).2 (.inl ho), h⟩
        · rintro ⟨d, hd, o, ho, e, h⟩
          rcases (d4 o).1 ho with h5 | rfl
          · exact .inr ⟨d, hd, o, h5, e, h⟩
          · exact absurd e (hb1 d hd)
      rw [hcc]
      rcases ih D1 d2 hb2 with h1 | ⟨h1, D', h2, h3, h4⟩
      · exact .inl h1
      · refine .inr ⟨h1, D', h2, h3, fun y => ?_⟩
        rw [h4, d4, List.mem_cons]
        exact or_assoc
theorem mksF_res : ∀ (b D : List (Int × Int)), D.Pairwise mlt → (mksF D b).Pairwise mlt ∧ ∀ x, x ∈ mksF D b ↔ x ∈ D ∨ x ∈ b := by
  intro b
  induction b with
  | nil => intro D hD; exact ⟨hD, fun x => by simp [mksF]⟩
  | cons m b ih =>
    intro D hD
    have e : mksF D (m :: b) = mksF (insM D m) b := rfl
    rw [e]
    by_cases c : m ∈ D
    · rw [insM_old hD c]
      obtain ⟨h1, h2⟩ := ih D hD
      refine ⟨h1, fun x => ?_⟩
      rw [h2, List.mem_cons]
      exact ⟨fun hh => hh.imp id .inr, fun hh => hh.elim .inl fun h5 => h5.elim (fun h6 => .inl (h6 ▸ c)) .inr⟩
    · obtain ⟨d2, _, d4⟩ := insM_new hD c
      obtain ⟨h1, h2⟩ := ih _ d2
      refine ⟨h1, fun x => ?_⟩
      rw [h2, d4, List.mem_cons]
      exact or_assoc
theorem conf_srt {M N : List Dec} : Conf (srtD M) (srtD N) ↔ Conf M N := by
  unfold Conf
  constructor
  · rintro ⟨d, hd, o, ho, h⟩; exact ⟨d, mem_srtD.1 hd, o, mem_srtD.1 ho, h⟩
  · rintro ⟨d, hd, o, ho, h⟩; exact ⟨d, mem_srtD.2 hd, o, mem_srtD.2 ho, h⟩
theorem decF_srt {M N : List Dec} (hM : Dst M) (hN : Dst N) : decF (srtD M) (srtD N) = if Conf M N then none else some (srtD (uniD M N)) := by
  rcases decF_res (srtD N) (srtD M) (srtD_asc hM) (asc_dst (srtD_asc hN)) with ⟨h1, h2⟩ | ⟨h1, D', h2, h3, h4⟩
  · rw [if_pos (conf_srt.1 h1), h2]
  · have hc : ¬ Conf M N := fun hh => h1 (conf_srt.2 hh)
    rw [if_neg hc, h2]
    exact congrArg some (srtD_uniq (uniD_dst hM) h3 fun x => by rw [h4, mem_srtD, mem_srtD, uniD_iff hN (.refl _) hc])
theorem mksF_srt {W V : List (Int × Int)} (hW : W.Nodup) : mksF (srtM W) (srtM V) = srtM (uniM W V) := by
  obtain ⟨h1, h2⟩ := mksF_res (srtM V) (srtM W) (srtM_asc hW)
  exact srtM_uniq (uniM_nd hW) h1 fun x => by rw [h2, mem_srtM, mem_srtM, uniM_mem]
theorem uni_tog {s t : St} (hs : OKs s) (ht : OKs t) (h : jn s t = 0) : Tog s t (uni s t) := by
  unfold jn at h
  by_cases c : Conf s.1 t.1
  · rw [if_pos c] at h; cases h
  rw [if_neg c] at h
  by_cases c2 : 200 < (uni s t).1.length ∨ 200 < (uni s t).2.length
  · rw [if_pos c2] at h; cases h
  exact ⟨⟨⟨by omega, by omega⟩, uniD_dst hs.dst, uniM_nd hs.nd⟩, fun d => uniD_iff ht.dst (.refl _) c, fun m => uniM_mem⟩
set_option maxHeartbeats 1000000 in
theorem s_ref_Ledger_Join (ra rb : Nat) (q q2 : RT) (s t : St) (ok : OKs s) (ok2 : OKs t) (h : AH) (ha : h.blk ra = some (rbk q (srS s))) (hb : h.blk rb = some (rbk q2 (srS t))) :
    ACalls Try.prog n_ref_Ledger_Join [.ptr ra 0, .ptr rb 0] h fun r g => r = I (jn s t) ∧ (jn s t ≠ 0 → g = h) ∧ (jn s t = 0 → ∃ q', g = h.put ra (rbk q' (srS (uni s t)))) := by
  refine ACalls.of hm cF_ref_Ledger_Join (by simp [g_ref_Ledger_Join]) fun hw => ?_
  unfold rbk srS at ha hb
  have hdd := decF_srt ok.dst ok2.dst
  have hmk := mksF_srt (V := t.2) ok.nd
  have f1 := ok.few
  have f2 := ok2.few
  simp only [ha, hb, F_ref_Ledger_Join, g_ref_Ledger_Join, go_sem, reduceIte, Nat.reduceEqDiff, Nat.reduceAdd, Nat.reduceMul, Nat.reduceSub, reduceCtorEq, Nat.reduceLeDiff, Nat.reduceLT, Int.reduceLT, Int.reduceLE, Int.reduceToNat, Int.reduceAdd, Int.reduceSub, Int.reduceNeg, Int.reduceMul, Int.reduceEq, ← Bool.decide_and, ← Bool.decide_or, ↓tq_n, ↓tq_e, ↓tq_r, ↓bq_n, ↓bq_e, ↓bq_r, ↓rq_n, ↓rq_r, ↓rq_e]
  refine CallG.mk (r_ref_decisions _ _ _ _ _ _ (by rw [srtD_len]; have := f1.1; omega) (by rw [srtD_len]; have := f2.1; omega) _) ?_
  rw [hdd]
  by_cases c : Conf s.1 t.1
  · have hj : jn s t = 10 := by unfold jn; rw [if_pos c]
    rw [if_pos c, hj]
    simp only [dcV, F_ref_Ledger_Join, g_ref_Ledger_Join, go_sem, reduceIte, Nat.reduceEqDiff, Nat.reduceAdd, Nat.reduceMul, Nat.reduceSub, reduceCtorEq, Nat.reduceLeDiff, Nat.reduceLT, Int.reduceLT, Int.reduceLE, Int.reduceToNat, Int.reduceAdd, Int.reduceSub, Int.reduceNeg, Int.reduceMul, Int.reduceEq, ← Bool.decide_and, ← Bool.decide_or, ↓tq_n, ↓tq_e, ↓tq_r, ↓bq_n, ↓bq_e, ↓bq_r, ↓rq_n, ↓rq_r, ↓rq_e]
    exact ⟨_, _, .refl _ _, rfl, fun _ => rfl⟩
  rw [if_neg c]
  simp only [dcV, ha, hb, F_ref_Ledger_Join, g_ref_Ledger_Join, go_sem, reduceIte, Nat.reduceEqDiff, Nat.reduceAdd, Nat.reduceMul, Nat.reduceSub, reduceCtorEq, Nat.reduceLeDiff, Nat.reduceLT, Int.reduceLT, Int.reduceLE, Int.reduceToNat, Int.reduceAdd, Int.reduceSub, Int.reduceNeg, Int.reduceMul, Int.reduceEq, ← Bool.decide_and, ← Bool.decide_or, ↓tq_n, ↓tq_e, ↓tq_r, ↓bq_n, ↓bq_e, ↓bq_r, ↓rq_n, ↓rq_r, ↓rq_e]
  refine CallG.mk (r_ref_marks _ _ _ _ _ _ (by rw [srtM_len]; have := f1.2; omega) (by rw [srtM_len]; have := f2.2; omega) _) ?_
  rw [hmk]
  by_cases c2 : 200 < (uni s t).1.length ∨ 200 < (uni s t).2.length
  · have hj : jn s t = 6 := by unfold jn; rw [if_neg c, if_pos c2]
    rw [hj]
    unfold uni at c2
    simp only at c2
    by_cases c3 : 200 < (uniD s.1 t.1).length
    · have c4 : (200 : Int) < ((srtD (uniD s.1 t.1)).length : Int) := by rw [srtD_len]; omega
      simp only [c4, decide_eq_true c4, F_ref_Ledger_Join, g_ref_Ledger_Join, go_sem, reduceIte, Nat.reduceEqDiff, Nat.reduceAdd, Nat.reduceMul, Nat.reduceSub, reduceCtorEq, Nat.reduceLeDiff, Nat.reduceLT, Int.reduceLT, Int.reduceLE, Int.reduceToNat, Int.reduceAdd, Int.reduceSub, Int.reduceNeg, Int.reduceMul, Int.reduceEq, ← Bool.decide_and, ← Bool.decide_or, ↓tq_n, ↓tq_e, ↓tq_r, ↓bq_n, ↓bq_e, ↓bq_r, ↓rq_n, ↓rq_r, ↓rq_e]
      exact ⟨_, _, .refl _ _, rfl, fun _ => rfl⟩
    · have c4 : ¬ (200 : Int) < ((srtD (uniD s.1 t.1)).length : Int) := by rw [srtD_len]; omega
      have c5 : (200 : Int) < ((srtM (uniM s.2 t.2)).length : Int) := by rw [srtM_len]; omega
      simp only [c4, decide_eq_false c4, c5, decide_eq_true c5, F_ref_Ledger_Join, g_ref_Ledger_Join, go_sem, reduceIte, Nat.reduceEqDiff, Nat.reduceAdd, Nat.reduceMul, Nat.reduceSub, reduceCtorEq, Nat.reduceLeDiff, Nat.reduceLT, Int.reduceLT, Int.reduceLE, Int.reduceToNat, Int.reduceAdd, Int.reduceSub, Int.reduceNeg, Int.reduceMul, Int.reduceEq, ← Bool.decide_and, ← Bool.decide_or, ↓tq_n, ↓tq_e, ↓tq_r, ↓bq_n, ↓bq_e, ↓bq_r, ↓rq_n, ↓rq_r, ↓rq_e]
      exact ⟨_, _, .refl _ _, rfl, fun _ => rfl⟩
  · have hj : jn s t = 0 := by unfold jn; rw [if_neg c, if_neg c2]
    rw [hj]
    unfold uni at c2
    simp only at c2
    have c4 : ¬ (200 : Int) < ((srtD (uniD s.1 t.1)).length : Int) := by rw [srtD_len]; omega
    have c5 : ¬ (200 : Int) < ((srtM (uniM s.2 t.2)).length : Int) := by rw [srtM_len]; omega
    simp only [c4, decide_eq_false c4, c5, decide_eq_false c5, ha, F_ref_Ledger_Join, g_ref_Ledger_Join, go_sem, reduceIte, Nat.reduceEqDiff, Nat.reduceAdd, Nat.reduceMul, Nat.reduceSub, reduceCtorEq, Nat.reduceLeDiff, Nat.reduceLT, Int.reduceLT, Int.reduceLE, Int.reduceToNat, Int.reduceAdd, Int.reduceSub, Int.reduceNeg, Int.reduceMul, Int.reduceEq, ← Bool.decide_and, ← Bool.decide_or, ↓tq_n, ↓tq_e, ↓tq_r, ↓bq_n, ↓bq_e, ↓bq_r, ↓rq_n, ↓rq_r, ↓rq_e]
    exact ⟨_, _, .refl _ _, rfl, fun e => absurd rfl e, (false, .unk, false, .unk), rfl⟩
end Go.Proofs.Ytcnmodnafnadlaa
namespace Go.Proofs.Ytcnmodnafnadlaa
open Go Go.Abs
set_option linter.unusedSimpArgs false
set_option linter.unusedVariables false
set_option maxRecDepth 20000

theorem conf_comm {M N : List Dec} : Conf M N ↔ Conf N M := by
  unfold Conf
  constructor
  · rintro ⟨d, hd, o, ho, e, hne⟩; exact ⟨o, ho, d, hd, e.symm, Ne.symm hne⟩
  · rintro ⟨d, hd, o, ho, e, hne⟩; exact ⟨o, ho, d, hd, e.symm, Ne.symm hne⟩
theorem jn_comm {s t : St} (hs : OKs s) (ht : OKs t) : jn s t = jn t s := by
  unfold jn
  by_cases c : Conf s.1 t.1
  · rw [if_pos c, if_pos (conf_comm.1 c)]
  have c' : ¬ Conf t.1 s.1 := fun hh => c (conf_comm.1 hh)
  rw [if_neg c, if_neg c']
  have e1 : (uni s t).1.length = (uni t s).1.length := len_of_mem (dst_nodup (uniD_dst hs.dst)) (dst_nodup (uniD_dst ht.dst)) fun x => by
    show x ∈ uniD s.1 t.1 ↔ x ∈ uniD t.1 s.1
    rw [uniD_iff ht.dst (.refl _) c, uniD_iff hs.dst (.refl _) c']
    exact or_comm
  have e2 : (uni s t).2.length = (uni t s).2.length := len_of_mem (uniM_nd hs.nd) (uniM_nd ht.nd) fun x => by
    show x ∈ uniM s.2 t.2 ↔ x ∈ uniM t.2 s.2
    rw [uniM_mem, uniM_mem]
    exact or_comm
  rw [e1, e2]
/-- A ledger that has another one. -/
theorem jn_sub {u t : St} (hu : OKs u) (ht : OKs t) (h1 : ∀ d ∈ t.1, d ∈ u.1) (h2 : ∀ m ∈ t.2, m ∈ u.2) : jn u t = 0 := by
  have c : ¬ Conf u.1 t.1 := fun ⟨d, hd, o, ho, e, hne⟩ => hne (dst_uniq hu.dst ho (h1 d hd) e)
  have e1 : (uni u t).1.length = u.1.length := len_of_mem (dst_nodup (uniD_dst hu.dst)) (dst_nodup hu.dst) fun x => by
    show x ∈ uniD u.1 t.1 ↔ x ∈ u.1
    rw [uniD_iff ht.dst (.refl _) c]
    exact ⟨fun hh => hh.elim id (h1 x), .inl⟩
  have e2 : (uni u t).2.length = u.2.length := len_of_mem (uniM_nd hu.nd) hu.nd fun x => by
    show x ∈ uniM u.2 t.2 ↔ x ∈ u.2
    rw [uniM_mem]
    exact ⟨fun hh => hh.elim id (h2 x), .inl⟩
  unfold jn
  rw [if_neg c, if_neg]
  rw [e1, e2]
  have := hu.few
  unfold Few at this
  omega
/-- Ledgers that are joined within a ledger. -/
theorem jn_in {f s t : St} (hf : OKs f) (hs : OKs s) (ht : OKs t) (h1 : ∀ d ∈ s.1, d ∈ f.1) (h2 : ∀ m ∈ s.2, m ∈ f.2) (h3 : ∀ d ∈ t.1, d ∈ f.1) (h4 : ∀ m ∈ t.2, m ∈ f.2) : jn s t = 0 := by
  have c : ¬ Conf s.1 t.1 := fun ⟨d, hd, o, ho, e, hne⟩ => hne (dst_uniq hf.dst (h1 o ho) (h3 d hd) e)
  have e1 : (uni s t).1.length ≤ f.1.length := len_of_sub (dst_nodup (uniD_dst hs.dst)) fun x hx => by
    rcases (uniD_iff ht.dst (.refl _) c).1 hx with hx | hx
    · exact h1 x hx
    · exact h3 x hx
  have e2 : (uni s t).2.length ≤ f.2.length := len_of_sub (uniM_nd hs.nd) fun x hx => by
    rcases uniM_mem.1 hx with hx | hx
    · exact h2 x hx
    · exact h4 x hx
  unfold jn
  rw [if_neg c, if_neg]
  have := hf.few
  unfold Few at this
  omega
theorem Tog.eq {s t u v : St} (h1 : Tog s t u) (h2 : Tog s t v) : srS u = srS v := sr_eq h1.ok h2.ok (fun d => (h1.m1 d).trans (h2.m1 d).symm) (fun m => (h1.m2 m).trans (h2.m2 m).symm)
theorem Tog.comm {s t u : St} (h : Tog s t u) : Tog t s u := ⟨h.ok, fun d => (h.m1 d).trans or_comm, fun m => (h.m2 m).trans or_comm⟩
theorem few_sr {s : St} (h : OKs s) : Few (srS s) := ⟨by unfold srS; simp only [srtD_len]; exact h.few.1, by unfold srS; simp only [srtM_len]; exact h.few.2⟩
/-- Memory. -/
theorem setL_newA (h : AH) (lb : Nat) {b1 b2 : Nat} (hn : b1 ≠ b2) (s : St) : setL (newA h lb b1 b2) b1 b2 s = newL h lb b1 b2 s := by
  have e : setL (newA h lb b1 b2) b1 b2 s = (((((h.putM b1 []).putM b2 []).putM b1 (enD s.1)).putM b2 (enM s.2))).put lb [.map b1, .map b2] := rfl
  rw [e, ← AH.putM_comm _ _ _ hn, AH.putM_putM, AH.putM_putM]
  rfl
theorem s_law_made2 (nl : Bool) (l : List Op) (tl : Tail) (hl : l.length ≤ 1000) (h : AH) : ACalls Try.prog n_law_made [.sl nl l.length (ops l) tl] h fun r g => ∃ lb b1 b2, h.blk lb = none ∧ h.mp b1 = none ∧ h.mp b2 = none ∧ b1 ≠ b2 ∧ r = .tup [.ptr lb 0, .bool (fineA s0 l)] ∧ g = newL h lb b1 b2 (runA s0 l) :=
  (s_law_made nl l tl hl h).mono fun r g hr => by
    obtain ⟨lb, b1, b2, k1, k2, k3, k4, e1, e2⟩ := hr
    exact ⟨lb, b1, b2, k1, k2, k3, k4, e1, e2.trans (setL_newA h lb k4 _)⟩
theorem Led.newL_self (h : AH) (lb : Nat) {b1 b2 : Nat} (hn : b1 ≠ b2) (s : St) : Led (newL h lb b1 b2 s) lb b1 b2 s :=
  ⟨AH.blk_put _ _ _, (AH.mp_putM_ne _ _ hn).trans (AH.mp_putM _ _ _), AH.mp_putM _ _ _, hn⟩
theorem Led.newL_other {h : AH} {la a1 a2 lb b1 b2 : Nat} {F : St} (k : Led h la a1 a2 F) (hb : la ≠ lb) (h1 : h.mp b1 = none) (h2 : h.mp b2 = none) (s : St) : Led (newL h lb b1 b2 s) la a1 a2 F := by
  obtain ⟨n1, n3⟩ := k.map_ne h1
  obtain ⟨n2, n4⟩ := k.map_ne h2
  exact ⟨(AH.blk_put_ne _ _ hb).trans k.blk, (AH.mp_putM_ne _ _ n2).trans ((AH.mp_putM_ne _ _ n1).trans k.m1), (AH.mp_putM_ne _ _ n4).trans ((AH.mp_putM_ne _ _ n3).trans k.m2), k.ne⟩
theorem newL_blk {h : AH} {lb b1 b2 r : Nat} {s : St} {c : List AV} (hr : h.blk r = some c) (hn : r ≠ lb) : (newL h lb b1 b2 s).blk r = some c := (AH.blk_put_ne _ _ hn).trans hr
theorem ne_of_blk {h : AH} {b r : Nat} {c : List AV} (hr : h.blk r = some c) (hb : h.blk b = none) : r ≠ b := fun e => by rw [e, hb] at hr; cases hr
theorem le_none {h g : AH} (k : h.le g) {b : Nat} (hb : g.blk b = none) : h.blk b = none := by
  cases hc : h.blk b with
  | none => rfl
  | some c => rw [k.blk _ _ hc] at hb; cases hb
theorem le_nonem {h g : AH} (k : h.le g) {b : Nat} (hb : g.mp b = none) : h.mp b = none := by
  cases hc : h.mp b with
  | none => rfl
  | some c => rw [k.mp _ _ hc] at hb; cases hb
theorem le_newL {h g : AH} (k : h.le g) {lb b1 b2 : Nat} (hb : h.blk lb = none) (h1 : g.mp b1 = none) (h2 : g.mp b2 = none) (s : St) : h.le (newL g lb b1 b2 s) :=
  AH.le_put (AH.le_putM (AH.le_putM k (le_nonem k h1)) (le_nonem k h2)) hb
end Go.Proofs.Ytcnmodnafnadlaa
namespace Go.Proofs.Ytcnmodnafnadlaa
open Go Go.Abs

theorem has_dec {xs : List AV} (h : Has (.st [.int .i64, .int .i64, .int .i64, .int .i64, .int .i64]) xs) : ∃ x : Dec, xs = x.cs := by
  obtain ⟨r1, c1, rfl, h1, h⟩ := has_cons h
  obtain ⟨r2, c2, rfl, h2, h⟩ := has_cons h
  obtain ⟨r3, c3, rfl, h3, h⟩ := has_cons h
  obtain ⟨r4, c4, rfl, h4, h⟩ := has_cons h
  obtain ⟨r5, c5, rfl, h5, h⟩ := has_cons h
  obtain rfl := has_nil h
  obtain ⟨a1, rfl, _⟩ := has_int h1
  obtain ⟨a2, rfl, _⟩ := has_int h2
  obtain ⟨a3, rfl, _⟩ := has_int h3
  obtain ⟨a4, rfl, _⟩ := has_int h4
  obtain ⟨a5, rfl, _⟩ := has_int h5
  exact ⟨⟨a1, a2, a3, a4, a5⟩, rfl⟩
theorem has_op {xs : List AV} (h : Has (.st [.bool, .st [.int .i64, .int .i64, .int .i64, .int .i64, .int .i64], .st [.int .i64, .int .i64]]) xs) : ∃ x : Op, xs = x.cs := by
  obtain ⟨r1, c1, rfl, h1, h⟩ := has_cons h
  obtain ⟨r2, c2, rfl, h2, h⟩ := has_cons h
  obtain ⟨r3, c3, rfl, h3, h⟩ := has_cons h
  obtain rfl := has_nil h
  obtain ⟨b, rfl⟩ := has_bool h1
  obtain ⟨d, rfl⟩ := has_dec h2
  obtain ⟨m, rfl⟩ := has_pair h3
  exact ⟨⟨b, d, m⟩, rfl⟩
theorem has_ops {xs : List AV} (h : Has (.sl (.st [.bool, .st [.int .i64, .int .i64, .int .i64, .int .i64, .int .i64], .st [.int .i64, .int .i64]])) xs) : ∃ nl, ∃ e : List Op, xs = [.sl nl e.length (ops e) .unk] := has_rows Op.cs (fun _ => has_op) h
end Go.Proofs.Ytcnmodnafnadlaa
