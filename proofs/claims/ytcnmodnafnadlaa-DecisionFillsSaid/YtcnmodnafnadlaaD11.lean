/- The statement DecisionFills as a call. No condition. -/
import Derived.Test.YtcnmodnafnadlaaP2
import Derived.Test.YtcnmodnafnadlaaD8
namespace Go.Proofs.Ytcnmodnafnadlaa
open Go Go.Abs
set_option linter.unusedSimpArgs false
set_option linter.unusedVariables false
set_option maxRecDepth 20000

/-- The ledger that is filled. -/
def fiD (k : Int) (j : Nat) : Dec := ⟨k, (j : Int) + 1, 3, 1, 2⟩
def fiM (k : Int) (i : Nat) : List Dec := (List.range i).map (fiD k)
def fiW (k : Int) (i : Nat) : List (Int × Int) := (List.range i).map fun (j : Nat) => (k, (j : Int) + 1)
theorem fi0 (k : Int) : True := trivial
def fiS (k : Int) (i : Nat) : St := (fiM k i, fiW k i)
theorem fiM_succ (k : Int) (i : Nat) : fiM k (i + 1) = fiM k i ++ [fiD k i] := by simp [fiM, List.range_succ]
theorem fiW_succ (k : Int) (i : Nat) : fiW k (i + 1) = fiW k i ++ [(k, (i : Int) + 1)] := by simp [fiW, List.range_succ]
theorem fiM_len (k : Int) (i : Nat) : (fiM k i).length = i := by simp [fiM]
theorem fiW_len (k : Int) (i : Nat) : (fiW k i).length = i := by simp [fiW]
theorem mem_fiM {k : Int} {i : Nat} {d : Dec} : d ∈ fiM k i ↔ ∃ j, j < i ∧ d = fiD k j := by
  unfold fiM
  rw [List.mem_map]
  constructor
  · rintro ⟨j, h1, rfl⟩; exact ⟨j, List.mem_range.1 h1, rfl⟩
  · rintro ⟨j, h1, rfl⟩; exact ⟨j, List.mem_range.2 h1, rfl⟩
theorem mem_fiW {k : Int} {i : Nat} {m : Int × Int} : m ∈ fiW k i ↔ ∃ j : Nat, j < i ∧ m = (k, (j : Int) + 1) := by
  unfold fiW
  rw [List.mem_map]
  constructor
  · rintro ⟨j, h1, rfl⟩; exact ⟨j, List.mem_range.1 h1, rfl⟩
  · rintro ⟨j, h1, rfl⟩; exact ⟨j, List.mem_range.2 h1, rfl⟩
theorem fi_mk {k : Int} (h0 : 0 ≤ k) (h7 : k ≤ 7) {i : Nat} (hi : i < 200) : mkL (fiM k i) (fiD k i) = (0, fiM k (i + 1)) := by
  have c : dcOK (fiD k i) := ⟨by unfold mkOK fiD Dec.mk2; simp only; omega, by simp [fiD], .inr (.inl ⟨rfl, by simp [fiD], by simp [fiD]⟩)⟩
  unfold mkL
  rw [if_pos c]
  have hn : (fiM k i).find? (fun x => decide ((fiD k i).mk2 = x.mk2)) = none := by
    rw [List.find?_eq_none]
    intro x hx
    obtain ⟨j, h1, rfl⟩ := mem_fiM.1 hx
    simp only [fiD, Dec.mk2, Prod.mk.injEq, decide_eq_true_eq]
    omega
  rw [hn]
  simp only
  rw [if_neg (by rw [fiM_len]; omega), fiM_succ]
theorem fi_wd {k : Int} (h0 : 0 ≤ k) (h7 : k ≤ 7) {i : Nat} (hi : i < 200) : wdL (fiW k i) (k, (i : Int) + 1) = (0, fiW k (i + 1)) := by
  have c : mkOK (k, (i : Int) + 1) := by unfold mkOK; simp only; omega
  unfold wdL
  rw [if_pos c, if_neg (fun hh => by
    obtain ⟨j, h1, h2⟩ := mem_fiW.1 hh
    have := congrArg Prod.snd h2
    simp only at this
    omega), if_neg (by rw [fiW_len]; omega), fiW_succ]
theorem fi_ok {k : Int} (h0 : 0 ≤ k) (h7 : k ≤ 7) : ∀ {i : Nat}, i ≤ 200 → OKs (fiS k i) := by
  intro i
  induction i with
  | zero => intro _; have := ok0; exact this
  | succ i ih =>
    intro hi
    have h1 := ih (by omega)
    have h2 := doA_ok h1 ⟨false, fiD k i, (0, 0)⟩
    have e1 : doA (fiS k i) ⟨false, fiD k i, (0, 0)⟩ = (0, (fiM k (i + 1), fiW k i)) := by
      unfold doA fiS
      simp only [Bool.false_eq_true, if_false]
      rw [fi_mk h0 h7 (by omega)]
    rw [e1] at h2
    have h3 := doA_ok h2 ⟨true, dD, (k, (i : Int) + 1)⟩
    have e2 : doA (fiM k (i + 1), fiW k i) ⟨true, dD, (k, (i : Int) + 1)⟩ = (0, fiS k (i + 1)) := by
      unfold doA fiS
      simp only [if_true]
      rw [fi_wd h0 h7 (by omega)]
    rw [e2] at h3
    exact h3
/-- What Make of a further decision returns. -/
def wantV (k : Int) (d : Dec) : Int := if dcOK d then (if d.au = k then (if d.ki = 3 ∧ d.a = 1 ∧ d.b = 2 then 0 else 10) else 6) else 1
theorem fi_more {k : Int} (d : Dec) : mkL (fiM k 200) d = (wantV k d, fiM k 200) := by
  unfold mkL wantV
  by_cases c : dcOK d
  case neg => rw [if_neg c, if_neg c]
  rw [if_pos c, if_pos c]
  obtain ⟨au, nu, ki, a, b⟩ := d
  have hm2 : mkOK (au, nu) := c.1
  unfold mkOK at hm2
  simp only at hm2
  by_cases e : au = k
  · subst e
    cases ho : (fiM au 200).find? fun x => decide ((Dec.mk au nu ki a b).mk2 = x.mk2) with
    | none =>
      have := find_none (M := fiM au 200) (d := ⟨au, nu, ki, a, b⟩) ho (fiD au (nu.toNat - 1)) (mem_fiM.2 ⟨_, by omega, rfl⟩)
      simp only [fiD, Dec.mk2, ne_eq, Prod.mk.injEq, true_and] at this
      omega
    | some o =>
      obtain ⟨h1, h2⟩ := find_some (M := fiM au 200) (d := ⟨au, nu, ki, a, b⟩) ho
      obtain ⟨j, h3, rfl⟩ := mem_fiM.1 h1
      simp only [fiD, Dec.mk2, Prod.mk.injEq, true_and] at h2
      simp only [if_true]
      by_cases e2 : ki = 3 ∧ a = 1 ∧ b = 2
      · rw [if_pos (by obtain ⟨rfl, rfl, rfl⟩ := e2; simp [fiD]; omega), if_pos e2]
      · rw [if_neg (fun hh => e2 (by simp only [fiD, Dec.mk.injEq] at hh; omega)), if_neg e2]
  · have hn : (fiM k 200).find? (fun x => decide ((Dec.mk au nu ki a b).mk2 = x.mk2)) = none := by
      rw [List.find?_eq_none]
      intro x hx
      obtain ⟨j, h1, rfl⟩ := mem_fiM.1 hx
      simp only [fiD, Dec.mk2, Prod.mk.injEq, decide_eq_true_eq]
      omega
    rw [hn]
    simp only
    rw [if_pos (by rw [fiM_len]; omega), if_neg e]
theorem fi_full {k j : Int} (h0 : 0 ≤ j) (h7 : j ≤ 7) (hn : j ≠ k) : wdL (fiW k 200) (j, 1) = (6, fiW k 200) := by
  unfold wdL
  rw [if_pos (by unfold mkOK; simp only; omega), if_neg (fun hh => by
    obtain ⟨i, h1, h2⟩ := mem_fiW.1 hh
    exact hn (congrArg Prod.fst h2)), if_pos (by rw [fiW_len]; omega)]
theorem fi_last {k : Int} (h0 : 0 ≤ k) (h7 : k ≤ 7) : wdL (fiW k 200) (k, 200) = (0, fiW k 200) := by
  unfold wdL
  rw [if_pos (by unfold mkOK; simp only; omega), if_pos (show (k, (200 : Int)) ∈ fiW k 200 from mem_fiW.2 ⟨199, by omega, rfl⟩)]
theorem fi_st (k : Int) : stL (fiS k 200) = [] := by
  unfold stL
  rw [List.filter_eq_nil_iff]
  intro d hd
  obtain ⟨j, h1, rfl⟩ := mem_fiM.1 (mem_srtD.1 hd)
  have : (fiD k j).mk2 ∈ (fiS k 200).2 := mem_fiW.2 ⟨j, h1, rfl⟩
  simp [this]
set_option maxHeartbeats 8000000 in
theorem r_law_DecisionFills (a : Int) (ha : InR .u8 a) (d : Dec) (h : AH) : RCall Try.prog n_law_DecisionFills [.int .u8 a, .st d.cs] h (.bool true) := by
  refine RCall.of hm cF_law_DecisionFills (by simp [g_law_DecisionFills]) fun hw h' hl => ?_
  simp only [Dec.cs, F_law_DecisionFills, g_law_DecisionFills, go_sem, reduceIte, Nat.reduceEqDiff, Nat.reduceAdd, Nat.reduceMul, Nat.reduceSub, reduceCtorEq, Nat.reduceLeDiff, Nat.reduceLT, Int.reduceLT, Int.reduceLE, Int.reduceToNat, Int.reduceAdd, Int.reduceSub, Int.reduceNeg, Int.reduceMul, Int.reduceEq, ← Bool.decide_and, ← Bool.decide_or, ↓tq_n, ↓tq_e, ↓tq_r, ↓bq_n, ↓bq_e, ↓bq_r, ↓rq_n, ↓rq_r, ↓rq_e]
  refine CallG.mk (r_law_awake _) ?_
  simp only [F_law_DecisionFills, g_law_DecisionFills, go_sem, reduceIte, Nat.reduceEqDiff, Nat.reduceAdd, Nat.reduceMul, Nat.reduceSub, reduceCtorEq, Nat.reduceLeDiff, Nat.reduceLT, Int.reduceLT, Int.reduceLE, Int.reduceToNat, Int.reduceAdd, Int.reduceSub, Int.reduceNeg, Int.reduceMul, Int.reduceEq, ← Bool.decide_and, ← Bool.decide_or, ↓tq_n, ↓tq_e, ↓tq_r, ↓bq_n, ↓bq_e, ↓bq_r, ↓rq_n, ↓rq_r, ↓rq_e]
  refine CallS.mk (s_decision_New _) fun r H' hr => ?_
  obtain ⟨lb, b1, b2, k1, k2, k3, k4, rfl, rfl⟩ := hr
  have hk := Led.new (h := h') (lb := lb) k4
  have hle : h'.le (newA h' lb b1 b2) := by
    unfold newA
    exact AH.le_put (AH.le_putM (AH.le_putM (AH.le.refl _) k2) k3) k1
  obtain ⟨H, hH⟩ : ∃ H, H = newA h' lb b1 b2 := ⟨_, rfl⟩
  rw [← hH] at hk hle ⊢
  simp only [F_law_DecisionFills, g_law_DecisionFills, go_sem, reduceIte, Nat.reduceEqDiff, Nat.reduceAdd, Nat.reduceMul, Nat.reduceSub, reduceCtorEq, Nat.reduceLeDiff, Nat.reduceLT, Int.reduceLT, Int.reduceLE, Int.reduceToNat, Int.reduceAdd, Int.reduceSub, Int.reduceNeg, Int.reduceMul, Int.reduceEq, ← Bool.decide_and, ← Bool.decide_or, ↓tq_n, ↓tq_e, ↓tq_r, ↓bq_n, ↓bq_e, ↓bq_r, ↓rq_n, ↓rq_r, ↓rq_e]
  have ha2 : 0 ≤ a ∧ a ≤ 255 := by
    have h1 : IntKind.u8.min = 0 := by decide
    have h2 : IntKind.u8.max = 255 := by decide
    unfold InR at ha
    rw [h1, h2] at ha
    exact ha
  have hwr : IntKind.i64.wrap a = a := by rw [IntKind.wrap_i64]; omega
  obtain ⟨k, hkd⟩ : ∃ k, k = (IntKind.i64.wrap a).tmod 8 := ⟨_, rfl⟩
  rw [← hkd]
  rw [hwr] at hkd
  have h0 : 0 ≤ k := by rw [hkd]; exact Int.tmod_nonneg 8 ha2.1
  have h7 : k ≤ 7 := by have := Int.tmod_lt_of_pos a (show (0 : Int) < 8 by decide); omega
  refine ⟨by decide, ?_⟩
  have hS0 : setL H b1 b2 (fiS k 0) = H := hk.self
  refine awp_loop (fun i : Nat => [(3, .sptr [I d.au, I d.nu, I d.ki, I d.a, I d.b]), (5, .ptr lb 0), (6, I k), (7, I ((i : Int) + 1))]) (fun i => setL H b1 b2 (fiS k i)) (fun i => i ≤ 200) (fun i => 200 - i) 0 (Nat.zero_le _) (by rw [hS0]; exact (GStep.forget (by repeat' first | exact EnvLe.nil _ | refine EnvLe.cons (AV.le.of_eq rfl) ?_ | refine EnvLe.cons (AV.le.undef _) ?_ | refine EnvLe.cons AV.le.unk ?_) (by repeat' first | exact AH.le.refl _ | assumption | (refine AH.le_put ?_ (by first | assumption | exact (AH.blk_put_ne _ _ (by assumption)).trans (by assumption) | exact AH.none_put (by assumption) | exact AH.none_put (AH.none_put (by assumption)) | (simp only [AH.blk_setTok, AH.tok_put] at *; first | assumption | exact AH.none_put (by assumption)))) | (refine AH.le_setTok ?_ (by first | assumption | exact (AH.blk_put_ne _ _ (by assumption)).trans (by assumption) | exact AH.none_put (by assumption) | exact AH.none_put (AH.none_put (by assumption)) | (simp only [AH.blk_setTok, AH.tok_put] at *; first | assumption | exact AH.none_put (by assumption)))) | (refine AH.le_putM ?_ (by first | assumption | exact (AH.mp_putM_ne _ _ (by assumption)).trans (by assumption) | (simp only [AH.mp_put, AH.mp_setTok] at *; assumption)))))) fun i hi => .of_vg hm ?_
  have hki := hk.set (fiS k i)
  have hok := fi_ok h0 h7 hi
  by_cases h3 : i < 200
  · have hc : (i : Int) + 1 ≤ 200 := by omega
    have e1 := fi_mk h0 h7 h3
    have e2 := fi_wd h0 h7 h3
    simp only [hc, decide_eq_true hc, F_law_DecisionFills, g_law_DecisionFills, go_sem, reduceIte, Nat.reduceEqDiff, Nat.reduceAdd, Nat.reduceMul, Nat.reduceSub, reduceCtorEq, Nat.reduceLeDiff, Nat.reduceLT, Int.reduceLT, Int.reduceLE, Int.reduceToNat, Int.reduceAdd, Int.reduceSub, Int.reduceNeg, Int.reduceMul, Int.reduceEq, ← Bool.decide_and, ← Bool.decide_or, ↓tq_n, ↓tq_e, ↓tq_r, ↓bq_n, ↓bq_e, ↓bq_r, ↓rq_n, ↓rq_r, ↓rq_e]
    refine CallS.mk (r_decision_Ledger_Make lb b1 b2 (fiM k i) (fiD k i) (by rw [fiM_len]; omega) _ hki.blk hki.m1) fun r H' hr => ?_
    obtain ⟨rfl, rfl⟩ := hr
    rw [e1]
    have hk2 := hki.m (fiM k (i + 1))
    simp only [F_law_DecisionFills, g_law_DecisionFills, go_sem, reduceIte, Nat.reduceEqDiff, Nat.reduceAdd, Nat.reduceMul, Nat.reduceSub, reduceCtorEq, Nat.reduceLeDiff, Nat.reduceLT, Int.reduceLT, Int.reduceLE, Int.reduceToNat, Int.reduceAdd, Int.reduceSub, Int.reduceNeg, Int.reduceMul, Int.reduceEq, ← Bool.decide_and, ← Bool.decide_or, ↓tq_n, ↓tq_e, ↓tq_r, ↓bq_n, ↓bq_e, ↓bq_r, ↓rq_n, ↓rq_r, ↓rq_e]
    refine CallS.mk (r_decision_Ledger_Withdraw lb b1 b2 (fiW k i) (k, (i : Int) + 1) (by rw [fiW_len]; omega) _ hk2.blk hk2.m2) fun r H' hr => ?_
    obtain ⟨rfl, rfl⟩ := hr
    rw [e2]
    have hh : (((setL H b1 b2 (fiS k i)).putM b1 (enD (fiM k (i + 1)))).putM b2 (enM (fiW k (i + 1)))) = setL H b1 b2 (fiS k (i + 1)) := setL_setL H k4 (fiS k i) (fiS k (i + 1))
    rw [hh]
    simp only [F_law_DecisionFills, g_law_DecisionFills, go_sem, reduceIte, Nat.reduceEqDiff, Nat.reduceAdd, Nat.reduceMul, Nat.reduceSub, reduceCtorEq, Nat.reduceLeDiff, Nat.reduceLT, Int.reduceLT, Int.reduceLE, Int.reduceToNat, Int.reduceAdd, Int.reduceSub, Int.reduceNeg, Int.reduceMul, Int.reduceEq, ← Bool.decide_and, ← Bool.decide_or, ↓tq_n, ↓tq_e, ↓tq_r, ↓bq_n, ↓bq_e, ↓bq_r, ↓rq_n, ↓rq_r, ↓rq_e]
    exact ⟨by rw [inR64]; omega, i + 1, by omega, by omega, (GStep.forget (by repeat' first | exact EnvLe.nil _ | refine EnvLe.cons (AV.le.of_eq rfl) ?_ | refine EnvLe.cons (AV.le.undef _) ?_ | refine EnvLe.cons AV.le.unk ?_) (by repeat' first | exact AH.le.refl _ | assumption | (refine AH.le_put ?_ (by first | assumption | exact (AH.blk_put_ne _ _ (by assumption)).trans (by assumption) | exact AH.none_put (by assumption) | exact AH.none_put (AH.none_put (by assumption)) | (simp only [AH.blk_setTok, AH.tok_put] at *; first | assumption | exact AH.none_put (by assumption)))) | (refine AH.le_setTok ?_ (by first | assumption | exact (AH.blk_put_ne _ _ (by assumption)).trans (by assumption) | exact AH.none_put (by assumption) | exact AH.none_put (AH.none_put (by assumption)) | (simp only [AH.blk_setTok, AH.tok_put] at *; first | assumption | exact AH.none_put (by assumption)))) | (refine AH.le_putM ?_ (by first | assumption | exact (AH.mp_putM_ne _ _ (by assumption)).trans (by assumption) | (simp only [AH.mp_put, AH.mp_setTok] at *; assumption)))))⟩
  have h3 : i = 200 := by omega
  subst h3
  have hle3 : h'.le (setL H b1 b2 (fiS k 200)) := by
    unfold setL
    exact AH.le_putM (AH.le_putM hle k2) k3
  obtain ⟨X, hX⟩ : ∃ X, X = setL H b1 b2 (fiS k 200) := ⟨_, rfl⟩
  rw [← hX] at hki hle3 ⊢
  have hwant : ∃ w, w = wantV k d := ⟨_, rfl⟩
  obtain ⟨j, hj⟩ : ∃ j, j = (k + 1).tmod 8 := ⟨_, rfl⟩
  have hj0 : 0 ≤ j := by rw [hj]; exact Int.tmod_nonneg 8 (by omega)
  have hj7 : j ≤ 7 := by have := Int.tmod_lt_of_pos (k + 1) (show (0 : Int) < 8 by decide); omega
  have hjk : j ≠ k := by
    rw [hj]
    by_cases e : k = 7
    · rw [e]; decide
    · rw [Int.tmod_eq_of_lt (by omega) (by omega)]; omega
  have f1 : (fiM k 200).length ≤ 200 := by rw [fiM_len]; omega
  have f2 : (fiW k 200).length ≤ 200 := by rw [fiW_len]; omega
  have rM := r_decision_Ledger_Make lb b1 b2 (fiM k 200) d f1 X hki.blk hki.m1
  have hm1 : X.mp b1 = some (enD (fiM k 200)) := hki.m1
  have hm2 : X.mp b2 = some (enM (fiW k 200)) := hki.m2
  rw [fi_more d] at rM
  simp only at rM
  rw [AH.putM_same hm1] at rM
  have rW1 := r_decision_Ledger_Withdraw lb b1 b2 (fiW k 200) (j, 1) f2 X hki.blk hki.m2
  rw [fi_full hj0 hj7 hjk] at rW1
  simp only at rW1
  rw [AH.putM_same hm2] at rW1
  have rW2 := r_decision_Ledger_Withdraw lb b1 b2 (fiW k 200) (k, 200) f2 X hki.blk hki.m2
  rw [fi_last h0 h7] at rW2
  simp only at rW2
  rw [AH.putM_same hm2] at rW2
  have rA := r_decision_Ledger_Made lb b1 b2 (fiS k 200) hok X hki
  have rB := r_decision_Ledger_Withdrawn lb b1 b2 (fiS k 200) hok X hki
  have rC := r_decision_Ledger_Standing lb b1 b2 (fiS k 200) hok X hki
  have l1 : (srtD (fiS k 200).1).length = 200 := by rw [srtD_len]; exact fiM_len k 200
  have l2 : (srtM (fiS k 200).2).length = 200 := by rw [srtM_len]; exact fiW_len k 200
  unfold lsD at rA
  unfold lsM at rB
  unfold stV at rC
  rw [fi_st] at rC
  rw [l1] at rA
  rw [l2] at rB
  have hin2 : InR .i64 (k + 1) := by rw [inR64]; omega
  have hc200 : ¬ (((200 : Nat) : Int) + 1 ≤ 200) := by omega
  simp only [hc200, decide_eq_false hc200, F_law_DecisionFills, g_law_DecisionFills, go_sem, reduceIte, Nat.reduceEqDiff, Nat.reduceAdd, Nat.reduceMul, Nat.reduceSub, reduceCtorEq, Nat.reduceLeDiff, Nat.reduceLT, Int.reduceLT, Int.reduceLE, Int.reduceToNat, Int.reduceAdd, Int.reduceSub, Int.reduceNeg, Int.reduceMul, Int.reduceEq, ← Bool.decide_and, ← Bool.decide_or, ↓tq_n, ↓tq_e, ↓tq_r, ↓bq_n, ↓bq_e, ↓bq_r, ↓rq_n, ↓rq_r, ↓rq_e]
  refine CallG.mk (r_ref_Valid d _) ?_
  by_cases c : dcOK d
  case neg =>
    rw [decide_eq_false c]
    have hwv : wantV k d = 1 := by unfold wantV; rw [if_neg c]
    rw [hwv] at rM
    simp only [decide_eq_false c, F_law_DecisionFills, g_law_DecisionFills, go_sem, reduceIte, Nat.reduceEqDiff, Nat.reduceAdd, Nat.reduceMul, Nat.reduceSub, reduceCtorEq, Nat.reduceLeDiff, Nat.reduceLT, Int.reduceLT, Int.reduceLE, Int.reduceToNat, Int.reduceAdd, Int.reduceSub, Int.reduceNeg, Int.reduceMul, Int.reduceEq, ← Bool.decide_and, ← Bool.decide_or, ↓tq_n, ↓tq_e, ↓tq_r, ↓bq_n, ↓bq_e, ↓bq_r, ↓rq_n, ↓rq_r, ↓rq_e]
    refine CallS.mk rM fun r H' hr => ?_
    obtain ⟨rfl, rfl⟩ := hr
    simp only [F_law_DecisionFills, g_law_DecisionFills, go_sem, reduceIte, Nat.reduceEqDiff, Nat.reduceAdd, Nat.reduceMul, Nat.reduceSub, reduceCtorEq, Nat.reduceLeDiff, Nat.reduceLT, Int.reduceLT, Int.reduceLE, Int.reduceToNat, Int.reduceAdd, Int.reduceSub, Int.reduceNeg, Int.reduceMul, Int.reduceEq, ← Bool.decide_and, ← Bool.decide_or, ↓tq_n, ↓tq_e, ↓tq_r, ↓bq_n, ↓bq_e, ↓bq_r, ↓rq_n, ↓rq_r, ↓rq_e]
    refine ⟨hin2, by decide, ?_⟩
    rw [← hj]
    refine CallS.mk rW1 fun r H' hr => ?_
    obtain ⟨rfl, rfl⟩ := hr
    simp only [F_law_DecisionFills, g_law_DecisionFills, go_sem, reduceIte, Nat.reduceEqDiff, Nat.reduceAdd, Nat.reduceMul, Nat.reduceSub, reduceCtorEq, Nat.reduceLeDiff, Nat.reduceLT, Int.reduceLT, Int.reduceLE, Int.reduceToNat, Int.reduceAdd, Int.reduceSub, Int.reduceNeg, Int.reduceMul, Int.reduceEq, ← Bool.decide_and, ← Bool.decide_or, ↓tq_n, ↓tq_e, ↓tq_r, ↓bq_n, ↓bq_e, ↓bq_r, ↓rq_n, ↓rq_r, ↓rq_e]
    refine CallS.mk rW2 fun r H' hr => ?_
    obtain ⟨rfl, rfl⟩ := hr
    simp only [F_law_DecisionFills, g_law_DecisionFills, go_sem, reduceIte, Nat.reduceEqDiff, Nat.reduceAdd, Nat.reduceMul, Nat.reduceSub, reduceCtorEq, Nat.reduceLeDiff, Nat.reduceLT, Int.reduceLT, Int.reduceLE, Int.reduceToNat, Int.reduceAdd, Int.reduceSub, Int.reduceNeg, Int.reduceMul, Int.reduceEq, ← Bool.decide_and, ← Bool.decide_or, ↓tq_n, ↓tq_e, ↓tq_r, ↓bq_n, ↓bq_e, ↓bq_r, ↓rq_n, ↓rq_r, ↓rq_e]
    refine CallG.mk rA ?_
    simp only [F_law_DecisionFills, g_law_DecisionFills, go_sem, reduceIte, Nat.reduceEqDiff, Nat.reduceAdd, Nat.reduceMul, Nat.reduceSub, reduceCtorEq, Nat.reduceLeDiff, Nat.reduceLT, Int.reduceLT, Int.reduceLE, Int.reduceToNat, Int.reduceAdd, Int.reduceSub, Int.reduceNeg, Int.reduceMul, Int.reduceEq, ← Bool.decide_and, ← Bool.decide_or, ↓tq_n, ↓tq_e, ↓tq_r, ↓bq_n, ↓bq_e, ↓bq_r, ↓rq_n, ↓rq_r, ↓rq_e]
    refine ⟨fun _ => ?_, fun hh => absurd rfl hh⟩
    refine CallG.mk rB ?_
    simp only [F_law_DecisionFills, g_law_DecisionFills, go_sem, reduceIte, Nat.reduceEqDiff, Nat.reduceAdd, Nat.reduceMul, Nat.reduceSub, reduceCtorEq, Nat.reduceLeDiff, Nat.reduceLT, Int.reduceLT, Int.reduceLE, Int.reduceToNat, Int.reduceAdd, Int.reduceSub, Int.reduceNeg, Int.reduceMul, Int.reduceEq, ← Bool.decide_and, ← Bool.decide_or, ↓tq_n, ↓tq_e, ↓tq_r, ↓bq_n, ↓bq_e, ↓bq_r, ↓rq_n, ↓rq_r, ↓rq_e]
    refine ⟨fun _ => ?_, fun hh => absurd rfl hh⟩
    refine CallG.mk rC ?_
    simp only [F_law_DecisionFills, g_law_DecisionFills, go_sem, reduceIte, Nat.reduceEqDiff, Nat.reduceAdd, Nat.reduceMul, Nat.reduceSub, reduceCtorEq, Nat.reduceLeDiff, Nat.reduceLT, Int.reduceLT, Int.reduceLE, Int.reduceToNat, Int.reduceAdd, Int.reduceSub, Int.reduceNeg, Int.reduceMul, Int.reduceEq, ← Bool.decide_and, ← Bool.decide_or, ↓tq_n, ↓tq_e, ↓tq_r, ↓bq_n, ↓bq_e, ↓bq_r, ↓rq_n, ↓rq_r, ↓rq_e]
    exact ret_le hle3 (AV.le.refl _)
  rw [decide_eq_true c]
  by_cases c1 : d.au = k
  case neg =>
    have hwv : wantV k d = 6 := by unfold wantV; rw [if_pos c, if_neg c1]
    rw [hwv] at rM
    simp only [c1, decide_eq_false c1, F_law_DecisionFills, g_law_DecisionFills, go_sem, reduceIte, Nat.reduceEqDiff, Nat.reduceAdd, Nat.reduceMul, Nat.reduceSub, reduceCtorEq, Nat.reduceLeDiff, Nat.reduceLT, Int.reduceLT, Int.reduceLE, Int.reduceToNat, Int.reduceAdd, Int.reduceSub, Int.reduceNeg, Int.reduceMul, Int.reduceEq, ← Bool.decide_and, ← Bool.decide_or, ↓tq_n, ↓tq_e, ↓tq_r, ↓bq_n, ↓bq_e, ↓bq_r, ↓rq_n, ↓rq_r, ↓rq_e]
    refine CallS.mk rM fun r H' hr => ?_
    obtain ⟨rfl, rfl⟩ := hr
    simp only [F_law_DecisionFills, g_law_DecisionFills, go_sem, reduceIte, Nat.reduceEqDiff, Nat.reduceAdd, Nat.reduceMul, Nat.reduceSub, reduceCtorEq, Nat.reduceLeDiff, Nat.reduceLT, Int.reduceLT, Int.reduceLE, Int.reduceToNat, Int.reduceAdd, Int.reduceSub, Int.reduceNeg, Int.reduceMul, Int.reduceEq, ← Bool.decide_and, ← Bool.decide_or, ↓tq_n, ↓tq_e, ↓tq_r, ↓bq_n, ↓bq_e, ↓bq_r, ↓rq_n, ↓rq_r, ↓rq_e]
    refine ⟨hin2, by decide, ?_⟩
    rw [← hj]
    refine CallS.mk rW1 fun r H' hr => ?_
    obtain ⟨rfl, rfl⟩ := hr
    simp only [F_law_DecisionFills, g_law_DecisionFills, go_sem, reduceIte, Nat.reduceEqDiff, Nat.reduceAdd, Nat.reduceMul, Nat.reduceSub, reduceCtorEq, Nat.reduceLeDiff, Nat.reduceLT, Int.reduceLT, Int.reduceLE, Int.reduceToNat, Int.reduceAdd, Int.reduceSub, Int.reduceNeg, Int.reduceMul, Int.reduceEq, ← Bool.decide_and, ← Bool.decide_or, ↓tq_n, ↓tq_e, ↓tq_r, ↓bq_n, ↓bq_e, ↓bq_r, ↓rq_n, ↓rq_r, ↓rq_e]
    refine CallS.mk rW2 fun r H' hr => ?_
    obtain ⟨rfl, rfl⟩ := hr
    simp only [F_law_DecisionFills, g_law_DecisionFills, go_sem, reduceIte, Nat.reduceEqDiff, Nat.reduceAdd, Nat.reduceMul, Nat.reduceSub, reduceCtorEq, Nat.reduceLeDiff, Nat.reduceLT, Int.reduceLT, Int.reduceLE, Int.reduceToNat, Int.reduceAdd, Int.reduceSub, Int.reduceNeg, Int.reduceMul, Int.reduceEq, ← Bool.decide_and, ← Bool.decide_or, ↓tq_n, ↓tq_e, ↓tq_r, ↓bq_n, ↓bq_e, ↓bq_r, ↓rq_n, ↓rq_r, ↓rq_e]
    refine CallG.mk rA ?_
    simp only [F_law_DecisionFills, g_law_DecisionFills, go_sem, reduceIte, Nat.reduceEqDiff, Nat.reduceAdd, Nat.reduceMul, Nat.reduceSub, reduceCtorEq, Nat.reduceLeDiff, Nat.reduceLT, Int.reduceLT, Int.reduceLE, Int.reduceToNat, Int.reduceAdd, Int.reduceSub, Int.reduceNeg, Int.reduceMul, Int.reduceEq, ← Bool.decide_and, ← Bool.decide_or, ↓tq_n, ↓tq_e, ↓tq_r, ↓bq_n, ↓bq_e, ↓bq_r, ↓rq_n, ↓rq_r, ↓rq_e]
    refine ⟨fun _ => ?_, fun hh => absurd rfl hh⟩
    refine CallG.mk rB ?_
    simp only [F_law_DecisionFills, g_law_DecisionFills, go_sem, reduceIte, Nat.reduceEqDiff, Nat.reduceAdd, Nat.reduceMul, Nat.reduceSub, reduceCtorEq, Nat.reduceLeDiff, Nat.reduceLT, Int.reduceLT, Int.reduceLE, Int.reduceToNat, Int.reduceAdd, Int.reduceSub, Int.reduceNeg, Int.reduceMul, Int.reduceEq, ← Bool.decide_and, ← Bool.decide_or, ↓tq_n, ↓tq_e, ↓tq_r, ↓bq_n, ↓bq_e, ↓bq_r, ↓rq_n, ↓rq_r, ↓rq_e]
    refine ⟨fun _ => ?_, fun hh => absurd rfl hh⟩
    refine CallG.mk rC ?_
    simp only [F_law_DecisionFills, g_law_DecisionFills, go_sem, reduceIte, Nat.reduceEqDiff, Nat.reduceAdd, Nat.reduceMul, Nat.reduceSub, reduceCtorEq, Nat.reduceLeDiff, Nat.reduceLT, Int.reduceLT, Int.reduceLE, Int.reduceToNat, Int.reduceAdd, Int.reduceSub, Int.reduceNeg, Int.reduceMul, Int.reduceEq, ← Bool.decide_and, ← Bool.decide_or, ↓tq_n, ↓tq_e, ↓tq_r, ↓bq_n, ↓bq_e, ↓bq_r, ↓rq_n, ↓rq_r, ↓rq_e]
    exact ret_le hle3 (AV.le.refl _)
  by_cases c2 : d.ki = 3
  case neg =>
    have hwv : wantV k d = 10 := by unfold wantV; rw [if_pos c, if_pos c1, if_neg (fun hh => c2 hh.1)]
    rw [hwv] at rM
    simp only [decide_eq_true c1, c2, decide_eq_false c2, F_law_DecisionFills, g_law_DecisionFills, go_sem, reduceIte, Nat.reduceEqDiff, Nat.reduceAdd, Nat.reduceMul, Nat.reduceSub, reduceCtorEq, Nat.reduceLeDiff, Nat.reduceLT, Int.reduceLT, Int.reduceLE, Int.reduceToNat, Int.reduceAdd, Int.reduceSub, Int.reduceNeg, Int.reduceMul, Int.reduceEq, ← Bool.decide_and, ← Bool.decide_or, ↓tq_n, ↓tq_e, ↓tq_r, ↓bq_n, ↓bq_e, ↓bq_r, ↓rq_n, ↓rq_r, ↓rq_e]
    refine CallS.mk rM fun r H' hr => ?_
    obtain ⟨rfl, rfl⟩ := hr
    simp only [F_law_DecisionFills, g_law_DecisionFills, go_sem, reduceIte, Nat.reduceEqDiff, Nat.reduceAdd, Nat.reduceMul, Nat.reduceSub, reduceCtorEq, Nat.reduceLeDiff, Nat.reduceLT, Int.reduceLT, Int.reduceLE, Int.reduceToNat, Int.reduceAdd, Int.reduceSub, Int.reduceNeg, Int.reduceMul, Int.reduceEq, ← Bool.decide_and, ← Bool.decide_or, ↓tq_n, ↓tq_e, ↓tq_r, ↓bq_n, ↓bq_e, ↓bq_r, ↓rq_n, ↓rq_r, ↓rq_e]
    refine ⟨hin2, by decide, ?_⟩
    rw [← hj]
    refine CallS.mk rW1 fun r H' hr => ?_
    obtain ⟨rfl, rfl⟩ := hr
    simp only [F_law_DecisionFills, g_law_DecisionFills, go_sem, reduceIte, Nat.reduceEqDiff, Nat.reduceAdd, Nat.reduceMul, Nat.reduceSub, reduceCtorEq, Nat.reduceLeDiff, Nat.reduceLT, Int.reduceLT, Int.reduceLE, Int.reduceToNat, Int.reduceAdd, Int.reduceSub, Int.reduceNeg, Int.reduceMul, Int.reduceEq, ← Bool.decide_and, ← Bool.decide_or, ↓tq_n, ↓tq_e, ↓tq_r, ↓bq_n, ↓bq_e, ↓bq_r, ↓rq_n, ↓rq_r, ↓rq_e]
    refine CallS.mk rW2 fun r H' hr => ?_
    obtain ⟨rfl, rfl⟩ := hr
    simp only [F_law_DecisionFills, g_law_DecisionFills, go_sem, reduceIte, Nat.reduceEqDiff, Nat.reduceAdd, Nat.reduceMul, Nat.reduceSub, reduceCtorEq, Nat.reduceLeDiff, Nat.reduceLT, Int.reduceLT, Int.reduceLE, Int.reduceToNat, Int.reduceAdd, Int.reduceSub, Int.reduceNeg, Int.reduceMul, Int.reduceEq, ← Bool.decide_and, ← Bool.decide_or, ↓tq_n, ↓tq_e, ↓tq_r, ↓bq_n, ↓bq_e, ↓bq_r, ↓rq_n, ↓rq_r, ↓rq_e]
    refine CallG.mk rA ?_
    simp only [F_law_DecisionFills, g_law_DecisionFills, go_sem, reduceIte, Nat.reduceEqDiff, Nat.reduceAdd, Nat.reduceMul, Nat.reduceSub, reduceCtorEq, Nat.reduceLeDiff, Nat.reduceLT, Int.reduceLT, Int.reduceLE, Int.reduceToNat, Int.reduceAdd, Int.reduceSub, Int.reduceNeg, Int.reduceMul, Int.reduceEq, ← Bool.decide_and, ← Bool.decide_or, ↓tq_n, ↓tq_e, ↓tq_r, ↓bq_n, ↓bq_e, ↓bq_r, ↓rq_n, ↓rq_r, ↓rq_e]
    refine ⟨fun _ => ?_, fun hh => absurd rfl hh⟩
    refine CallG.mk rB ?_
    simp only [F_law_DecisionFills, g_law_DecisionFills, go_sem, reduceIte, Nat.reduceEqDiff, Nat.reduceAdd, Nat.reduceMul, Nat.reduceSub, reduceCtorEq, Nat.reduceLeDiff, Nat.reduceLT, Int.reduceLT, Int.reduceLE, Int.reduceToNat, Int.reduceAdd, Int.reduceSub, Int.reduceNeg, Int.reduceMul, Int.reduceEq, ← Bool.decide_and, ← Bool.decide_or, ↓tq_n, ↓tq_e, ↓tq_r, ↓bq_n, ↓bq_e, ↓bq_r, ↓rq_n, ↓rq_r, ↓rq_e]
    refine ⟨fun _ => ?_, fun hh => absurd rfl hh⟩
    refine CallG.mk rC ?_
    simp only [F_law_DecisionFills, g_law_DecisionFills, go_sem, reduceIte, Nat.reduceEqDiff, Nat.reduceAdd, Nat.reduceMul, Nat.reduceSub, reduceCtorEq, Nat.reduceLeDiff, Nat.reduceLT, Int.reduceLT, Int.reduceLE, Int.reduceToNat, Int.reduceAdd, Int.reduceSub, Int.reduceNeg, Int.reduceMul, Int.reduceEq, ← Bool.decide_and, ← Bool.decide_or, ↓tq_n, ↓tq_e, ↓tq_r, ↓bq_n, ↓bq_e, ↓bq_r, ↓rq_n, ↓rq_r, ↓rq_e]
    exact ret_le hle3 (AV.le.refl _)
  by_cases c3 : d.a = 1
  case neg =>
    have hwv : wantV k d = 10 := by unfold wantV; rw [if_pos c, if_pos c1, if_neg (fun hh => c3 hh.2.1)]
    rw [hwv] at rM
    simp only [decide_eq_true c1, decide_eq_true c2, c3, decide_eq_false c3, F_law_DecisionFills, g_law_DecisionFills, go_sem, reduceIte, Nat.reduceEqDiff, Nat.reduceAdd, Nat.reduceMul, Nat.reduceSub, reduceCtorEq, Nat.reduceLeDiff, Nat.reduceLT, Int.reduceLT, Int.reduceLE, Int.reduceToNat, Int.reduceAdd, Int.reduceSub, Int.reduceNeg, Int.reduceMul, Int.reduceEq, ← Bool.decide_and, ← Bool.decide_or, ↓tq_n, ↓tq_e, ↓tq_r, ↓bq_n, ↓bq_e, ↓bq_r, ↓rq_n, ↓rq_r, ↓rq_e]
    refine CallS.mk rM fun r H' hr => ?_
    obtain ⟨rfl, rfl⟩ := hr
    simp only [F_law_DecisionFills, g_law_DecisionFills, go_sem, reduceIte, Nat.reduceEqDiff, Nat.reduceAdd, Nat.reduceMul, Nat.reduceSub, reduceCtorEq, Nat.reduceLeDiff, Nat.reduceLT, Int.reduceLT, Int.reduceLE, Int.reduceToNat, Int.reduceAdd, Int.reduceSub, Int.reduceNeg, Int.reduceMul, Int.reduceEq, ← Bool.decide_and, ← Bool.decide_or, ↓tq_n, ↓tq_e, ↓tq_r, ↓bq_n, ↓bq_e, ↓bq_r, ↓rq_n, ↓rq_r, ↓rq_e]
    refine ⟨hin2, by decide, ?_⟩
    rw [← hj]
    refine CallS.mk rW1 fun r H' hr => ?_
    obtain ⟨rfl, rfl⟩ := hr
    simp only [F_law_DecisionFills, g_law_DecisionFills, go_sem, reduceIte, Nat.reduceEqDiff, Nat.reduceAdd, Nat.reduceMul, Nat.reduceSub, reduceCtorEq, Nat.reduceLeDiff, Nat.reduceLT, Int.reduceLT, Int.reduceLE, Int.reduceToNat, Int.reduceAdd, Int.reduceSub, Int.reduceNeg, Int.reduceMul, Int.reduceEq, ← Bool.decide_and, ← Bool.decide_or, ↓tq_n, ↓tq_e, ↓tq_r, ↓bq_n, ↓bq_e, ↓bq_r, ↓rq_n, ↓rq_r, ↓rq_e]
    refine CallS.mk rW2 fun r H' hr => ?_
    obtain ⟨rfl, rfl⟩ := hr
    simp only [F_law_DecisionFills, g_law_DecisionFills, go_sem, reduceIte, Nat.reduceEqDiff, Nat.reduceAdd, Nat.reduceMul, Nat.reduceSub, reduceCtorEq, Nat.reduceLeDiff, Nat.reduceLT, Int.reduceLT, Int.reduceLE, Int.reduceToNat, Int.reduceAdd, Int.reduceSub, Int.reduceNeg, Int.reduceMul, Int.reduceEq, ← Bool.decide_and, ← Bool.decide_or, ↓tq_n, ↓tq_e, ↓tq_r, ↓bq_n, ↓bq_e, ↓bq_r, ↓rq_n, ↓rq_r, ↓rq_e]
    refine CallG.mk rA ?_
    simp only [F_law_DecisionFills, g_law_DecisionFills, go_sem, reduceIte, Nat.reduceEqDiff, Nat.reduceAdd, Nat.reduceMul, Nat.reduceSub, reduceCtorEq, Nat.reduceLeDiff, Nat.reduceLT, Int.reduceLT, Int.reduceLE, Int.reduceToNat, Int.reduceAdd, Int.reduceSub, Int.reduceNeg, Int.reduceMul, Int.reduceEq, ← Bool.decide_and, ← Bool.decide_or, ↓tq_n, ↓tq_e, ↓tq_r, ↓bq_n, ↓bq_e, ↓bq_r, ↓rq_n, ↓rq_r, ↓rq_e]
    refine ⟨fun _ => ?_, fun hh => absurd rfl hh⟩
    refine CallG.mk rB ?_
    simp only [F_law_DecisionFills, g_law_DecisionFills, go_sem, reduceIte, Nat.reduceEqDiff, Nat.reduceAdd, Nat.reduceMul, Nat.reduceSub, reduceCtorEq, Nat.reduceLeDiff, Nat.reduceLT, Int.reduceLT, Int.reduceLE, Int.reduceToNat, Int.reduceAdd, Int.reduceSub, Int.reduceNeg, Int.reduceMul, Int.reduceEq, ← Bool.decide_and, ← Bool.decide_or, ↓tq_n, ↓tq_e, ↓tq_r, ↓bq_n, ↓bq_e, ↓bq_r, ↓rq_n, ↓rq_r, ↓rq_e]
    refine ⟨fun _ => ?_, fun hh => absurd rfl hh⟩
    refine CallG.mk rC ?_
    simp only [F_law_DecisionFills, g_law_DecisionFills, go_sem, reduceIte, Nat.reduceEqDiff, Nat.reduceAdd, Nat.reduceMul, Nat.reduceSub, reduceCtorEq, Nat.reduceLeDiff, Nat.reduceLT, Int.reduceLT, Int.reduceLE, Int.reduceToNat, Int.reduceAdd, Int.reduceSub, Int.reduceNeg, Int.reduceMul, Int.reduceEq, ← Bool.decide_and, ← Bool.decide_or, ↓tq_n, ↓tq_e, ↓tq_r, ↓bq_n, ↓bq_e, ↓bq_r, ↓rq_n, ↓rq_r, ↓rq_e]
    exact ret_le hle3 (AV.le.refl _)
  by_cases c4 : d.b = 2
  case neg =>
    have hwv : wantV k d = 10 := by unfold wantV; rw [if_pos c, if_pos c1, if_neg (fun hh => c4 hh.2.2)]
    rw [hwv] at rM
    simp only [decide_eq_true c1, decide_eq_true c2, decide_eq_true c3, c4, decide_eq_false c4, F_law_DecisionFills, g_law_DecisionFills, go_sem, reduceIte, Nat.reduceEqDiff, Nat.reduceAdd, Nat.reduceMul, Nat.reduceSub, reduceCtorEq, Nat.reduceLeDiff, Nat.reduceLT, Int.reduceLT, Int.reduceLE, Int.reduceToNat, Int.reduceAdd, Int.reduceSub, Int.reduceNeg, Int.reduceMul, Int.reduceEq, ← Bool.decide_and, ← Bool.decide_or, ↓tq_n, ↓tq_e, ↓tq_r, ↓bq_n, ↓bq_e, ↓bq_r, ↓rq_n, ↓rq_r, ↓rq_e]
    refine CallS.mk rM fun r H' hr => ?_
    obtain ⟨rfl, rfl⟩ := hr
    simp only [F_law_DecisionFills, g_law_DecisionFills, go_sem, reduceIte, Nat.reduceEqDiff, Nat.reduceAdd, Nat.reduceMul, Nat.reduceSub, reduceCtorEq, Nat.reduceLeDiff, Nat.reduceLT, Int.reduceLT, Int.reduceLE, Int.reduceToNat, Int.reduceAdd, Int.reduceSub, Int.reduceNeg, Int.reduceMul, Int.reduceEq, ← Bool.decide_and, ← Bool.decide_or, ↓tq_n, ↓tq_e, ↓tq_r, ↓bq_n, ↓bq_e, ↓bq_r, ↓rq_n, ↓rq_r, ↓rq_e]
    refine ⟨hin2, by decide, ?_⟩
    rw [← hj]
    refine CallS.mk rW1 fun r H' hr => ?_
    obtain ⟨rfl, rfl⟩ := hr
    simp only [F_law_DecisionFills, g_law_DecisionFills, go_sem, reduceIte, Nat.reduceEqDiff, Nat.reduceAdd, Nat.reduceMul, Nat.reduceSub, reduceCtorEq, Nat.reduceLeDiff, Nat.reduceLT, Int.reduceLT, Int.reduceLE, Int.reduceToNat, Int.reduceAdd, Int.reduceSub, Int.reduceNeg, Int.reduceMul, Int.reduceEq, ← Bool.decide_and, ← Bool.decide_or, ↓tq_n, ↓tq_e, ↓tq_r, ↓bq_n, ↓bq_e, ↓bq_r, ↓rq_n, ↓rq_r, ↓rq_e]
    refine CallS.mk rW2 fun r H' hr => ?_
    obtain ⟨rfl, rfl⟩ := hr
    simp only [F_law_DecisionFills, g_law_DecisionFills, go_sem, reduceIte, Nat.reduceEqDiff, Nat.reduceAdd, Nat.reduceMul, Nat.reduceSub, reduceCtorEq, Nat.reduceLeDiff, Nat.reduceLT, Int.reduceLT, Int.reduceLE, Int.reduceToNat, Int.reduceAdd, Int.reduceSub, Int.reduceNeg, Int.reduceMul, Int.reduceEq, ← Bool.decide_and, ← Bool.decide_or, ↓tq_n, ↓tq_e, ↓tq_r, ↓bq_n, ↓bq_e, ↓bq_r, ↓rq_n, ↓rq_r, ↓rq_e]
    refine CallG.mk rA ?_
    simp only [F_law_DecisionFills, g_law_DecisionFills, go_sem, reduceIte, Nat.reduceEqDiff, Nat.reduceAdd, Nat.reduceMul, Nat.reduceSub, reduceCtorEq, Nat.reduceLeDiff, Nat.reduceLT, Int.reduceLT, Int.reduceLE, Int.reduceToNat, Int.reduceAdd, Int.reduceSub, Int.reduceNeg, Int.reduceMul, Int.reduceEq, ← Bool.decide_and, ← Bool.decide_or, ↓tq_n, ↓tq_e, ↓tq_r, ↓bq_n, ↓bq_e, ↓bq_r, ↓rq_n, ↓rq_r, ↓rq_e]
    refine ⟨fun _ => ?_, fun hh => absurd rfl hh⟩
    refine CallG.mk rB ?_
    simp only [F_law_DecisionFills, g_law_DecisionFills, go_sem, reduceIte, Nat.reduceEqDiff, Nat.reduceAdd, Nat.reduceMul, Nat.reduceSub, reduceCtorEq, Nat.reduceLeDiff, Nat.reduceLT, Int.reduceLT, Int.reduceLE, Int.reduceToNat, Int.reduceAdd, Int.reduceSub, Int.reduceNeg, Int.reduceMul, Int.reduceEq, ← Bool.decide_and, ← Bool.decide_or, ↓tq_n, ↓tq_e, ↓tq_r, ↓bq_n, ↓bq_e, ↓bq_r, ↓rq_n, ↓rq_r, ↓rq_e]
    refine ⟨fun _ => ?_, fun hh => absurd rfl hh⟩
    refine CallG.mk rC ?_
    simp only [F_law_DecisionFills, g_law_DecisionFills, go_sem, reduceIte, Nat.reduceEqDiff, Nat.reduceAdd, Nat.reduceMul, Nat.reduceSub, reduceCtorEq, Nat.reduceLeDiff, Nat.reduceLT, Int.reduceLT, Int.reduceLE, Int.reduceToNat, Int.reduceAdd, Int.reduceSub, Int.reduceNeg, Int.reduceMul, Int.reduceEq, ← Bool.decide_and, ← Bool.decide_or, ↓tq_n, ↓tq_e, ↓tq_r, ↓bq_n, ↓bq_e, ↓bq_r, ↓rq_n, ↓rq_r, ↓rq_e]
    exact ret_le hle3 (AV.le.refl _)
  have hwv : wantV k d = 0 := by unfold wantV; rw [if_pos c, if_pos c1, if_pos ⟨c2, c3, c4⟩]
  rw [hwv] at rM
  simp only [decide_eq_true c1, decide_eq_true c2, decide_eq_true c3, decide_eq_true c4, F_law_DecisionFills, g_law_DecisionFills, go_sem, reduceIte, Nat.reduceEqDiff, Nat.reduceAdd, Nat.reduceMul, Nat.reduceSub, reduceCtorEq, Nat.reduceLeDiff, Nat.reduceLT, Int.reduceLT, Int.reduceLE, Int.reduceToNat, Int.reduceAdd, Int.reduceSub, Int.reduceNeg, Int.reduceMul, Int.reduceEq, ← Bool.decide_and, ← Bool.decide_or, ↓tq_n, ↓tq_e, ↓tq_r, ↓bq_n, ↓bq_e, ↓bq_r, ↓rq_n, ↓rq_r, ↓rq_e]
  refine CallS.mk rM fun r H' hr => ?_
  obtain ⟨rfl, rfl⟩ := hr
  simp only [F_law_DecisionFills, g_law_DecisionFills, go_sem, reduceIte, Nat.reduceEqDiff, Nat.reduceAdd, Nat.reduceMul, Nat.reduceSub, reduceCtorEq, Nat.reduceLeDiff, Nat.reduceLT, Int.reduceLT, Int.reduceLE, Int.reduceToNat, Int.reduceAdd, Int.reduceSub, Int.reduceNeg, Int.reduceMul, Int.reduceEq, ← Bool.decide_and, ← Bool.decide_or, ↓tq_n, ↓tq_e, ↓tq_r, ↓bq_n, ↓bq_e, ↓bq_r, ↓rq_n, ↓rq_r, ↓rq_e]
  refine ⟨hin2, by decide, ?_⟩
  rw [← hj]
  refine CallS.mk rW1 fun r H' hr => ?_
  obtain ⟨rfl, rfl⟩ := hr
  simp only [F_law_DecisionFills, g_law_DecisionFills, go_sem, reduceIte, Nat.reduceEqDiff, Nat.reduceAdd, Nat.reduceMul, Nat.reduceSub, reduceCtorEq, Nat.reduceLeDiff, Nat.reduceLT, Int.reduceLT, Int.reduceLE, Int.reduceToNat, Int.reduceAdd, Int.reduceSub, Int.reduceNeg, Int.reduceMul, Int.reduceEq, ← Bool.decide_and, ← Bool.decide_or, ↓tq_n, ↓tq_e, ↓tq_r, ↓bq_n, ↓bq_e, ↓bq_r, ↓rq_n, ↓rq_r, ↓rq_e]
  refine CallS.mk rW2 fun r H' hr => ?_
  obtain ⟨rfl, rfl⟩ := hr
  simp only [F_law_DecisionFills, g_law_DecisionFills, go_sem, reduceIte, Nat.reduceEqDiff, Nat.reduceAdd, Nat.reduceMul, Nat.reduceSub, reduceCtorEq, Nat.reduceLeDiff, Nat.reduceLT, Int.reduceLT, Int.reduceLE, Int.reduceToNat, Int.reduceAdd, Int.reduceSub, Int.reduceNeg, Int.reduceMul, Int.reduceEq, ← Bool.decide_and, ← Bool.decide_or, ↓tq_n, ↓tq_e, ↓tq_r, ↓bq_n, ↓bq_e, ↓bq_r, ↓rq_n, ↓rq_r, ↓rq_e]
  refine CallG.mk rA ?_
  simp only [F_law_DecisionFills, g_law_DecisionFills, go_sem, reduceIte, Nat.reduceEqDiff, Nat.reduceAdd, Nat.reduceMul, Nat.reduceSub, reduceCtorEq, Nat.reduceLeDiff, Nat.reduceLT, Int.reduceLT, Int.reduceLE, Int.reduceToNat, Int.reduceAdd, Int.reduceSub, Int.reduceNeg, Int.reduceMul, Int.reduceEq, ← Bool.decide_and, ← Bool.decide_or, ↓tq_n, ↓tq_e, ↓tq_r, ↓bq_n, ↓bq_e, ↓bq_r, ↓rq_n, ↓rq_r, ↓rq_e]
  refine ⟨fun _ => ?_, fun hh => absurd rfl hh⟩
  refine CallG.mk rB ?_
  simp only [F_law_DecisionFills, g_law_DecisionFills, go_sem, reduceIte, Nat.reduceEqDiff, Nat.reduceAdd, Nat.reduceMul, Nat.reduceSub, reduceCtorEq, Nat.reduceLeDiff, Nat.reduceLT, Int.reduceLT, Int.reduceLE, Int.reduceToNat, Int.reduceAdd, Int.reduceSub, Int.reduceNeg, Int.reduceMul, Int.reduceEq, ← Bool.decide_and, ← Bool.decide_or, ↓tq_n, ↓tq_e, ↓tq_r, ↓bq_n, ↓bq_e, ↓bq_r, ↓rq_n, ↓rq_r, ↓rq_e]
  refine ⟨fun _ => ?_, fun hh => absurd rfl hh⟩
  refine CallG.mk rC ?_
  simp only [F_law_DecisionFills, g_law_DecisionFills, go_sem, reduceIte, Nat.reduceEqDiff, Nat.reduceAdd, Nat.reduceMul, Nat.reduceSub, reduceCtorEq, Nat.reduceLeDiff, Nat.reduceLT, Int.reduceLT, Int.reduceLE, Int.reduceToNat, Int.reduceAdd, Int.reduceSub, Int.reduceNeg, Int.reduceMul, Int.reduceEq, ← Bool.decide_and, ← Bool.decide_or, ↓tq_n, ↓tq_e, ↓tq_r, ↓bq_n, ↓bq_e, ↓bq_r, ↓rq_n, ↓rq_r, ↓rq_e]
  exact ret_le hle3 (AV.le.refl _)
end Go.Proofs.Ytcnmodnafnadlaa
