/- Calls of functions of this seat's program: checks of spots. No condition. -/
import Derived.Test.YtkoecjhjdckgeaaD3
import Derived.Test.YtkoecjhjdckgeaaC4
namespace Go.Proofs.Ytkoecjhjdckgeaa
open Go Go.Abs
set_option linter.unusedSimpArgs false
set_option linter.unusedVariables false
set_option maxRecDepth 20000

/-- The entries of a map of items by their Ids. -/
def ents (l : List It) : List (AV × AV) := l.map fun x => (I x.1, i3 x)
def hasI (l : List It) (k : Int) : Prop := ∃ j, j < l.length ∧ (l.getD j dI).1 = k
instance (l : List It) (k : Int) : Decidable (hasI l k) := by unfold hasI; infer_instance
theorem hasI_cons {x : It} {l : List It} {k : Int} : hasI (x :: l) k ↔ x.1 = k ∨ hasI l k := by
  unfold hasI
  constructor
  · rintro ⟨j, h1, h2⟩
    cases j with
    | zero => exact .inl (by simpa using h2)
    | succ j => exact .inr ⟨j, by simpa using h1, by simpa using h2⟩
  · rintro (h | ⟨j, h1, h2⟩)
    · exact ⟨0, by simp, by simpa using h⟩
    · exact ⟨j + 1, by simpa using h1, by simpa using h2⟩
theorem find_ents (k : Int) : ∀ l : List It, findAV none (.int .i64 k) (ents l) = some (if hasI l k then some (i3 (fnd l k)) else none) := by
  intro l
  induction l with
  | nil => simp [ents, findAV, keyOK, hasI]
  | cons x l ih =>
    have e : ents (x :: l) = (I x.1, i3 x) :: ents l := rfl
    rw [e, findAV]
    simp only [keyEq, and_self, if_true]
    by_cases h : k = x.1
    · rw [decide_eq_true h, if_pos (hasI_cons.2 (.inl h.symm)), fnd, if_pos h.symm]
    · rw [decide_eq_false h]
      have h' : ¬ x.1 = k := fun hh => h hh.symm
      simp only [ih, fnd, hasI_cons, h', false_or, if_false]
theorem upd_ents {x : It} : ∀ {l : List It}, ¬ hasI l x.1 → updAV none (.int .i64 x.1) (i3 x) (ents l) = some (ents (l ++ [x])) := by
  intro l
  induction l with
  | nil => intro _; simp [ents, updAV, keyOK]
  | cons y l ih =>
    intro h
    have h1 : ¬ x.1 = y.1 := fun hh => h (hasI_cons.2 (.inl hh.symm))
    have h2 : ¬ hasI l x.1 := fun hh => h (hasI_cons.2 (.inr hh))
    have e : ents (y :: l) = (I y.1, i3 y) :: ents l := rfl
    rw [e, updAV]
    simp only [keyEq, and_self, if_true, decide_eq_false h1, ih h2]
    rfl
theorem take_snocI {l : List It} {i : Nat} (h : i < l.length) : l.take (i + 1) = l.take i ++ [l.getD i dI] := by
  have := take_map_succ (fun x : It => x) dI h
  simpa using this
theorem hasI_take {l : List It} (hl : ∀ i, i < l.length → iOK l i) {i : Nat} (h : i < l.length) : ¬ hasI (l.take i) (l.getD i dI).1 := by
  rintro ⟨j, h1, h2⟩
  have hj : j < i := by rw [List.length_take] at h1; omega
  have e : (l.take i).getD j dI = l.getD j dI := by simp [List.getD, List.getElem?_take, hj]
  rw [e] at h2
  exact (hl i h).2.2.2 j hj h2
def idsS (s : List Sp) (i : Nat) : List Int := (s.take i).map Prod.fst
theorem idsS_succ {l : List Sp} {i : Nat} (h : i < l.length) : idsS l (i + 1) = idsS l i ++ [(l.getD i dS).1] := take_map_succ Prod.fst dS h
theorem mem_idsS {l : List Sp} {x : Int} : ∀ {i : Nat}, i ≤ l.length → (x ∈ idsS l i ↔ ∃ k, k < i ∧ (l.getD k dS).1 = x) := by
  intro i
  induction i with
  | zero => intro _; simp [idsS]
  | succ i ih =>
    intro h
    rw [idsS_succ (by omega), List.mem_append, ih (by omega), List.mem_singleton]
    constructor
    · rintro (⟨k, h1, h2⟩ | rfl)
      · exact ⟨k, by omega, h2⟩
      · exact ⟨i, by omega, rfl⟩
    · rintro ⟨k, h1, h2⟩
      rcases lt_succ_cases h1 with h3 | rfl
      · exact .inl ⟨k, h3, h2⟩
      · exact .inr h2.symm
theorem smI_fnd {l : List It} {s : List Sp} (hl : ∀ i, i < l.length → iOK l i) {i : Nat} (h : spOK l s i) : smI (fnd l (s.getD i dS).1) := by
  obtain ⟨j, h1, h2, _⟩ := spOK_fnd hl h
  rw [h2]
  obtain ⟨_, h2, h3, _⟩ := hl j h1
  exact ⟨⟨by omega, h2.2⟩, by omega, h3.2⟩
/-- The bounds of a spot that is not bad. -/
theorem good_b {l : List It} {p : It} {x : Sp} (hp : pgOK p) (hs : smI (fnd l x.1)) (h : ¬ badS l p x) : (0 ≤ x.2.2.1 ∧ x.2.2.1 ≤ 400) ∧ 0 ≤ x.2.2.2 ∧ x.2.2.2 ≤ 400 := by
  have h1 : inn p (fnd l x.1) x := Classical.byContradiction fun hn => h (.inr hn)
  obtain ⟨g1, g2, g3⟩ := hp
  unfold inn at h1
  unfold smI at hs
  omega

set_option maxHeartbeats 4000000 in
theorem r_plate_Check (nl : Bool) (l : List It) (tl : Tail) (p : It) (n2 : Bool) (s : List Sp) (u2 : Tail) (h : AH) : RCall Try.prog n_plate_Check [.sl nl l.length (trs l) tl, i3 p, .sl n2 s.length (sps s) u2] h (I (ckQ l p s)) := by
  refine RCall.of hm cF_plate_Check (by simp [g_plate_Check]) fun hw h' hl => ?_
  have hsl := wf_len (hw _ (.tail _ (.tail _ (.head _))))
  simp only [F_plate_Check, g_plate_Check, go_sem, reduceIte, Nat.reduceEqDiff, Nat.reduceAdd, Nat.reduceMul, Nat.reduceSub, reduceCtorEq, Nat.reduceLeDiff, Nat.reduceLT, Int.reduceLT, Int.reduceLE, Int.reduceToNat, Int.reduceAdd, Int.reduceSub, Int.reduceNeg, Int.reduceMul, Int.reduceEq, ← Bool.decide_and, ← Bool.decide_or, ↓tq_n, ↓tq_e, ↓tq_r, ↓bq_n, ↓bq_e, ↓bq_r, ↓rq_n, ↓rq_r, ↓rq_e]
  refine CallG.mk (r_plate_check nl l tl p _) ?_
  simp only [F_plate_Check, g_plate_Check, go_sem, reduceIte, Nat.reduceEqDiff, Nat.reduceAdd, Nat.reduceMul, Nat.reduceSub, reduceCtorEq, Nat.reduceLeDiff, Nat.reduceLT, Int.reduceLT, Int.reduceLE, Int.reduceToNat, Int.reduceAdd, Int.reduceSub, Int.reduceNeg, Int.reduceMul, Int.reduceEq, ← Bool.decide_and, ← Bool.decide_or, ↓tq_n, ↓tq_e, ↓tq_r, ↓bq_n, ↓bq_e, ↓bq_r, ↓rq_n, ↓rq_r, ↓rq_e]
  refine ⟨fun h0 => ?_, fun h0 => ?_⟩
  · exact ret_ok (by rw [ckQ_g h0])
  obtain ⟨k3, gp⟩ := gvQ_ok h0
  obtain ⟨k4, k5⟩ := itQ_ok k3
  refine ⟨fun hc => ?_, fun hc => ?_⟩
  · exact ret_ok (by rw [ckQ_l h0 (by omega)])
  have hln : s.length = l.length := by omega
  refine NewMG.mk fun b1 hb1 => ?_
  simp only [F_plate_Check, g_plate_Check, go_sem, reduceIte, Nat.reduceEqDiff, Nat.reduceAdd, Nat.reduceMul, Nat.reduceSub, reduceCtorEq, Nat.reduceLeDiff, Nat.reduceLT, Int.reduceLT, Int.reduceLE, Int.reduceToNat, Int.reduceAdd, Int.reduceSub, Int.reduceNeg, Int.reduceMul, Int.reduceEq, ← Bool.decide_and, ← Bool.decide_or, ↓tq_n, ↓tq_e, ↓tq_r, ↓bq_n, ↓bq_e, ↓bq_r, ↓rq_n, ↓rq_r, ↓rq_e]
  refine awp_loop (fun i : Nat => [(2, .sl n2 s.length (sps s) u2), (4, .sptr [I p.1, I p.2.1, I p.2.2]), (8, .map b1), (36, .sl nl l.length (trs l) tl), (37, I l.length), (38, I i)]) (fun i => h'.putM b1 (ents (l.take i))) (fun i => i ≤ l.length) (fun i => l.length - i) 0 (Nat.zero_le _) (GStep.forget (by repeat' first | exact EnvLe.nil _ | refine EnvLe.cons (AV.le.of_eq rfl) ?_ | refine EnvLe.cons (AV.le.undef _) ?_ | refine EnvLe.cons AV.le.unk ?_) (by repeat' first | exact AH.le.refl _ | assumption | (refine AH.le_put ?_ (by first | assumption | exact (AH.blk_put_ne _ _ (by assumption)).trans (by assumption) | exact AH.none_put (by assumption) | exact AH.none_put (AH.none_put (by assumption)) | (simp only [AH.blk_setTok, AH.tok_put] at *; first | assumption | exact AH.none_put (by assumption)))) | (refine AH.le_setTok ?_ (by first | assumption | exact (AH.blk_put_ne _ _ (by assumption)).trans (by assumption) | exact AH.none_put (by assumption) | exact AH.none_put (AH.none_put (by assumption)) | (simp only [AH.blk_setTok, AH.tok_put] at *; first | assumption | exact AH.none_put (by assumption)))) | (refine AH.le_putM ?_ (by first | assumption | exact (AH.mp_putM_ne _ _ (by assumption)).trans (by assumption) | (simp only [AH.mp_put, AH.mp_setTok] at *; assumption))))) fun i hi => .of_vg hm ?_
  by_cases h3 : i < l.length
  · have hc3 : (i : Int) < (l.length : Int) := by omega
    have e1 := upd_ents (hasI_take k5 h3)
    rw [← take_snocI h3] at e1
    simp only [hc3, trs_dropI h3, e1, F_plate_Check, g_plate_Check, go_sem, reduceIte, Nat.reduceEqDiff, Nat.reduceAdd, Nat.reduceMul, Nat.reduceSub, reduceCtorEq, Nat.reduceLeDiff, Nat.reduceLT, Int.reduceLT, Int.reduceLE, Int.reduceToNat, Int.reduceAdd, Int.reduceSub, Int.reduceNeg, Int.reduceMul, Int.reduceEq, ← Bool.decide_and, ← Bool.decide_or, ↓tq_n, ↓tq_e, ↓tq_r, ↓bq_n, ↓bq_e, ↓bq_r, ↓rq_n, ↓rq_r, ↓rq_e]
    exact ⟨by rw [inR64]; omega, i + 1, by omega, by omega, (GStep.forget (by repeat' first | exact EnvLe.nil _ | refine EnvLe.cons (AV.le.of_eq rfl) ?_ | refine EnvLe.cons (AV.le.undef _) ?_ | refine EnvLe.cons AV.le.unk ?_) (by repeat' first | exact AH.le.refl _ | assumption | (refine AH.le_put ?_ (by first | assumption | exact (AH.blk_put_ne _ _ (by assumption)).trans (by assumption) | exact AH.none_put (by assumption) | exact AH.none_put (AH.none_put (by assumption)) | (simp only [AH.blk_setTok, AH.tok_put] at *; first | assumption | exact AH.none_put (by assumption)))) | (refine AH.le_setTok ?_ (by first | assumption | exact (AH.blk_put_ne _ _ (by assumption)).trans (by assumption) | exact AH.none_put (by assumption) | exact AH.none_put (AH.none_put (by assumption)) | (simp only [AH.blk_setTok, AH.tok_put] at *; first | assumption | exact AH.none_put (by assumption)))) | (refine AH.le_putM ?_ (by first | assumption | exact (AH.mp_putM_ne _ _ (by assumption)).trans (by assumption) | (simp only [AH.mp_put, AH.mp_setTok] at *; assumption)))))⟩
  have h3 : i = l.length := by omega
  subst h3
  simp only [List.take_length, F_plate_Check, g_plate_Check, go_sem, reduceIte, Nat.reduceEqDiff, Nat.reduceAdd, Nat.reduceMul, Nat.reduceSub, reduceCtorEq, Nat.reduceLeDiff, Nat.reduceLT, Int.reduceLT, Int.reduceLE, Int.reduceToNat, Int.reduceAdd, Int.reduceSub, Int.reduceNeg, Int.reduceMul, Int.reduceEq, ← Bool.decide_and, ← Bool.decide_or, ↓tq_n, ↓tq_e, ↓tq_r, ↓bq_n, ↓bq_e, ↓bq_r, ↓rq_n, ↓rq_r, ↓rq_e]
  refine NewMG.mk fun b2 hb2 => ?_
  have hb12 : b1 ≠ b2 := fun hh => by subst hh; rw [AH.mp_putM] at hb2; cases hb2
  have hb2' : h'.mp b2 = none := by rw [AH.mp_putM_ne _ _ (Ne.symm hb12)] at hb2; exact hb2
  have hmp : ∀ (H : AH) es, (H.putM b2 es).mp b1 = H.mp b1 := fun H es => AH.mp_putM_ne H es hb12
  have hle : AH.le h' (h'.putM b1 (ents l)) := AH.le_putM (.refl _) hb1
  simp only [F_plate_Check, g_plate_Check, go_sem, reduceIte, Nat.reduceEqDiff, Nat.reduceAdd, Nat.reduceMul, Nat.reduceSub, reduceCtorEq, Nat.reduceLeDiff, Nat.reduceLT, Int.reduceLT, Int.reduceLE, Int.reduceToNat, Int.reduceAdd, Int.reduceSub, Int.reduceNeg, Int.reduceMul, Int.reduceEq, ← Bool.decide_and, ← Bool.decide_or, ↓tq_n, ↓tq_e, ↓tq_r, ↓bq_n, ↓bq_e, ↓bq_r, ↓rq_n, ↓rq_r, ↓rq_e]
  refine awp_loop (fun i : Nat => [(2, .sl n2 s.length (sps s) u2), (4, .sptr [I p.1, I p.2.1, I p.2.2]), (8, .map b1), (11, .map b2), (48, .sl n2 s.length (sps s) u2), (49, I s.length), (50, I i)]) (fun i => (h'.putM b1 (ents l)).putM b2 (keys (idsS s i))) (fun i => i ≤ s.length ∧ ∀ j, j < i → spOK l s j) (fun i => s.length - i) 0 ⟨Nat.zero_le _, fun j hj => absurd hj (Nat.not_lt_zero _)⟩ (GStep.forget (by repeat' first | exact EnvLe.nil _ | refine EnvLe.cons (AV.le.of_eq rfl) ?_ | refine EnvLe.cons (AV.le.undef _) ?_ | refine EnvLe.cons AV.le.unk ?_) (by repeat' first | exact AH.le.refl _ | assumption | (refine AH.le_put ?_ (by first | assumption | exact (AH.blk_put_ne _ _ (by assumption)).trans (by assumption) | exact AH.none_put (by assumption) | exact AH.none_put (AH.none_put (by assumption)) | (simp only [AH.blk_setTok, AH.tok_put] at *; first | assumption | exact AH.none_put (by assumption)))) | (refine AH.le_setTok ?_ (by first | assumption | exact (AH.blk_put_ne _ _ (by assumption)).trans (by assumption) | exact AH.none_put (by assumption) | exact AH.none_put (AH.none_put (by assumption)) | (simp only [AH.blk_setTok, AH.tok_put] at *; first | assumption | exact AH.none_put (by assumption)))) | (refine AH.le_putM ?_ (by first | assumption | exact (AH.mp_putM_ne _ _ (by assumption)).trans (by assumption) | (simp only [AH.mp_put, AH.mp_setTok] at *; assumption))))) fun i hi => .of_vg hm ?_
  obtain ⟨h1, h2⟩ := hi
  by_cases h3 : i < s.length
  · have hc3 : (i : Int) < (s.length : Int) := by omega
    have hmem := mem_idsS (x := (s.getD i dS).1) h1
    have hsucc := idsS_succ h3
    have no : ¬ spOK l s i → ckQ l p s = 7 := fun hn => ckQ_s h0 hln h3 hn
    by_cases h5 : hasI l (s.getD i dS).1
    case neg =>
      simp only [hc3, sps_drop h3, hmp, find_ents, h5, Option.getD_none, Option.isSome_none, F_plate_Check, g_plate_Check, go_sem, reduceIte, Nat.reduceEqDiff, Nat.reduceAdd, Nat.reduceMul, Nat.reduceSub, reduceCtorEq, Nat.reduceLeDiff, Nat.reduceLT, Int.reduceLT, Int.reduceLE, Int.reduceToNat, Int.reduceAdd, Int.reduceSub, Int.reduceNeg, Int.reduceMul, Int.reduceEq, ← Bool.decide_and, ← Bool.decide_or, ↓tq_n, ↓tq_e, ↓tq_r, ↓bq_n, ↓bq_e, ↓bq_r, ↓rq_n, ↓rq_r, ↓rq_e]
      exact ret_hb (AH.le_putM hle hb2') (by rw [no (fun hh => h5 hh.1)])
    by_cases h6 : (s.getD i dS).1 ∈ idsS s i
    · simp only [hc3, sps_drop h3, hmp, find_ents, h5, find_keys, h6, Option.getD_some, Option.isSome_some, F_plate_Check, g_plate_Check, go_sem, reduceIte, Nat.reduceEqDiff, Nat.reduceAdd, Nat.reduceMul, Nat.reduceSub, reduceCtorEq, Nat.reduceLeDiff, Nat.reduceLT, Int.reduceLT, Int.reduceLE, Int.reduceToNat, Int.reduceAdd, Int.reduceSub, Int.reduceNeg, Int.reduceMul, Int.reduceEq, ← Bool.decide_and, ← Bool.decide_or, ↓tq_n, ↓tq_e, ↓tq_r, ↓bq_n, ↓bq_e, ↓bq_r, ↓rq_n, ↓rq_r, ↓rq_e]
      exact ret_hb (AH.le_putM hle hb2') (by rw [no (fun hh => by obtain ⟨k, q1, q2⟩ := hmem.1 h6; exact hh.2 k q1 q2)])
    · simp only [hc3, sps_drop h3, hmp, find_ents, h5, find_keys, h6, Option.getD_some, Option.isSome_some, upd_keys h6, ← hsucc, F_plate_Check, g_plate_Check, go_sem, reduceIte, Nat.reduceEqDiff, Nat.reduceAdd, Nat.reduceMul, Nat.reduceSub, reduceCtorEq, Nat.reduceLeDiff, Nat.reduceLT, Int.reduceLT, Int.reduceLE, Int.reduceToNat, Int.reduceAdd, Int.reduceSub, Int.reduceNeg, Int.reduceMul, Int.reduceEq, ← Bool.decide_and, ← Bool.decide_or, ↓tq_n, ↓tq_e, ↓tq_r, ↓bq_n, ↓bq_e, ↓bq_r, ↓rq_n, ↓rq_r, ↓rq_e]
      exact ⟨by rw [inR64]; omega, i + 1, ⟨by omega, all_succ h2 ⟨h5, fun k hk hh => h6 (hmem.2 ⟨k, hk, hh⟩)⟩⟩, by omega, (GStep.forget (by repeat' first | exact EnvLe.nil _ | refine EnvLe.cons (AV.le.of_eq rfl) ?_ | refine EnvLe.cons (AV.le.undef _) ?_ | refine EnvLe.cons AV.le.unk ?_) (by repeat' first | exact AH.le.refl _ | assumption | (refine AH.le_put ?_ (by first | assumption | exact (AH.blk_put_ne _ _ (by assumption)).trans (by assumption) | exact AH.none_put (by assumption) | exact AH.none_put (AH.none_put (by assumption)) | (simp only [AH.blk_setTok, AH.tok_put] at *; first | assumption | exact AH.none_put (by assumption)))) | (refine AH.le_setTok ?_ (by first | assumption | exact (AH.blk_put_ne _ _ (by assumption)).trans (by assumption) | exact AH.none_put (by assumption) | exact AH.none_put (AH.none_put (by assumption)) | (simp only [AH.blk_setTok, AH.tok_put] at *; first | assumption | exact AH.none_put (by assumption)))) | (refine AH.le_putM ?_ (by first | assumption | exact (AH.mp_putM_ne _ _ (by assumption)).trans (by assumption) | (simp only [AH.mp_put, AH.mp_setTok] at *; assumption)))))⟩
  have h3 : i = s.length := by omega
  subst h3
  have hleH := AH.le_putM (es := keys (idsS s s.length)) hle hb2'
  obtain ⟨H, hH⟩ : ∃ H, H = (h'.putM b1 (ents l)).putM b2 (keys (idsS s s.length)) := ⟨_, rfl⟩
  have hmH : H.mp b1 = some (ents l) := by rw [hH, hmp, AH.mp_putM]
  rw [← hH] at hleH ⊢
  simp only [F_plate_Check, g_plate_Check, go_sem, reduceIte, Nat.reduceEqDiff, Nat.reduceAdd, Nat.reduceMul, Nat.reduceSub, reduceCtorEq, Nat.reduceLeDiff, Nat.reduceLT, Int.reduceLT, Int.reduceLE, Int.reduceToNat, Int.reduceAdd, Int.reduceSub, Int.reduceNeg, Int.reduceMul, Int.reduceEq, ← Bool.decide_and, ← Bool.decide_or, ↓tq_n, ↓tq_e, ↓tq_r, ↓bq_n, ↓bq_e, ↓bq_r, ↓rq_n, ↓rq_r, ↓rq_e]
  refine awp_loop (fun i : Nat => [(2, .sl n2 s.length (sps s) u2), (4, .sptr [I p.1, I p.2.1, I p.2.2]), (8, .map b1), (73, .sl n2 s.length (sps s) u2), (74, I s.length), (75, I i)]) (fun i => H) (fun i => i ≤ s.length ∧ ∀ j, j < i → ¬ badS l p (s.getD j dS)) (fun i => s.length - i) 0 ⟨Nat.zero_le _, fun j hj => absurd hj (Nat.not_lt_zero _)⟩ (GStep.forget (by repeat' first | exact EnvLe.nil _ | refine EnvLe.cons (AV.le.of_eq rfl) ?_ | refine EnvLe.cons (AV.le.undef _) ?_ | refine EnvLe.cons AV.le.unk ?_) (by repeat' first | exact AH.le.refl _ | assumption | (refine AH.le_put ?_ (by first | assumption | exact (AH.blk_put_ne _ _ (by assumption)).trans (by assumption) | exact AH.none_put (by assumption) | exact AH.none_put (AH.none_put (by assumption)) | (simp only [AH.blk_setTok, AH.tok_put] at *; first | assumption | exact AH.none_put (by assumption)))) | (refine AH.le_setTok ?_ (by first | assumption | exact (AH.blk_put_ne _ _ (by assumption)).trans (by assumption) | exact AH.none_put (by assumption) | exact AH.none_put (AH.none_put (by assumption)) | (simp only [AH.blk_setTok, AH.tok_put] at *; first | assumption | exact AH.none_put (by assumption)))) | (refine AH.le_putM ?_ (by first | assumption | exact (AH.mp_putM_ne _ _ (by assumption)).trans (by assumption) | (simp only [AH.mp_put, AH.mp_setTok] at *; assumption))))) fun i hi => .of_vg hm ?_
  obtain ⟨q1, q2⟩ := hi
  by_cases h3 : i < s.length
  · have hc3 : (i : Int) < (s.length : Int) := by omega
    have h5 : hasI l (s.getD i dS).1 := (h2 i h3).1
    by_cases h6 : (s.getD i dS).2.1 < 0
    · simp only [hc3, sps_drop h3, hmH, find_ents, h5, h6, Option.getD_some, F_plate_Check, g_plate_Check, go_sem, reduceIte, Nat.reduceEqDiff, Nat.reduceAdd, Nat.reduceMul, Nat.reduceSub, reduceCtorEq, Nat.reduceLeDiff, Nat.reduceLT, Int.reduceLT, Int.reduceLE, Int.reduceToNat, Int.reduceAdd, Int.reduceSub, Int.reduceNeg, Int.reduceMul, Int.reduceEq, ← Bool.decide_and, ← Bool.decide_or, ↓tq_n, ↓tq_e, ↓tq_r, ↓bq_n, ↓bq_e, ↓bq_r, ↓rq_n, ↓rq_r, ↓rq_e]
      exact ret_hb hleH (by rw [ckQ_b h0 hln h2 h3 (.inl h6)])
    have h6d := decide_eq_false h6
    simp only [hc3, sps_drop h3, hmH, find_ents, h5, h6d, Option.getD_some, F_plate_Check, g_plate_Check, go_sem, reduceIte, Nat.reduceEqDiff, Nat.reduceAdd, Nat.reduceMul, Nat.reduceSub, reduceCtorEq, Nat.reduceLeDiff, Nat.reduceLT, Int.reduceLT, Int.reduceLE, Int.reduceToNat, Int.reduceAdd, Int.reduceSub, Int.reduceNeg, Int.reduceMul, Int.reduceEq, ← Bool.decide_and, ← Bool.decide_or, ↓tq_n, ↓tq_e, ↓tq_r, ↓bq_n, ↓bq_e, ↓bq_r, ↓rq_n, ↓rq_r, ↓rq_e]
    refine CallG.mk (r_plate_inner (fnd l (s.getD i dS).1) p (s.getD i dS) _ gp (smI_fnd k5 (h2 i h3))) ?_
    by_cases h7 : inn p (fnd l (s.getD i dS).1) (s.getD i dS)
    · rw [decide_eq_true h7]
      simp only [F_plate_Check, g_plate_Check, go_sem, reduceIte, Nat.reduceEqDiff, Nat.reduceAdd, Nat.reduceMul, Nat.reduceSub, reduceCtorEq, Nat.reduceLeDiff, Nat.reduceLT, Int.reduceLT, Int.reduceLE, Int.reduceToNat, Int.reduceAdd, Int.reduceSub, Int.reduceNeg, Int.reduceMul, Int.reduceEq, ← Bool.decide_and, ← Bool.decide_or, ↓tq_n, ↓tq_e, ↓tq_r, ↓bq_n, ↓bq_e, ↓bq_r, ↓rq_n, ↓rq_r, ↓rq_e]
      exact ⟨by rw [inR64]; omega, i + 1, ⟨by omega, all_succ q2 (fun hh => hh.elim h6 (fun hn => hn h7))⟩, by omega, (GStep.forget (by repeat' first | exact EnvLe.nil _ | refine EnvLe.cons (AV.le.of_eq rfl) ?_ | refine EnvLe.cons (AV.le.undef _) ?_ | refine EnvLe.cons AV.le.unk ?_) (by repeat' first | exact AH.le.refl _ | assumption | (refine AH.le_put ?_ (by first | assumption | exact (AH.blk_put_ne _ _ (by assumption)).trans (by assumption) | exact AH.none_put (by assumption) | exact AH.none_put (AH.none_put (by assumption)) | (simp only [AH.blk_setTok, AH.tok_put] at *; first | assumption | exact AH.none_put (by assumption)))) | (refine AH.le_setTok ?_ (by first | assumption | exact (AH.blk_put_ne _ _ (by assumption)).trans (by assumption) | exact AH.none_put (by assumption) | exact AH.none_put (AH.none_put (by assumption)) | (simp only [AH.blk_setTok, AH.tok_put] at *; first | assumption | exact AH.none_put (by assumption)))) | (refine AH.le_putM ?_ (by first | assumption | exact (AH.mp_putM_ne _ _ (by assumption)).trans (by assumption) | (simp only [AH.mp_put, AH.mp_setTok] at *; assumption)))))⟩
    · rw [decide_eq_false h7]
      simp only [F_plate_Check, g_plate_Check, go_sem, reduceIte, Nat.reduceEqDiff, Nat.reduceAdd, Nat.reduceMul, Nat.reduceSub, reduceCtorEq, Nat.reduceLeDiff, Nat.reduceLT, Int.reduceLT, Int.reduceLE, Int.reduceToNat, Int.reduceAdd, Int.reduceSub, Int.reduceNeg, Int.reduceMul, Int.reduceEq, ← Bool.decide_and, ← Bool.decide_or, ↓tq_n, ↓tq_e, ↓tq_r, ↓bq_n, ↓bq_e, ↓bq_r, ↓rq_n, ↓rq_r, ↓rq_e]
      exact ret_hb hleH (by rw [ckQ_b h0 hln h2 h3 (.inr h7)])
  have h3 : i = s.length := by omega
  subst h3
  simp only [F_plate_Check, g_plate_Check, go_sem, reduceIte, Nat.reduceEqDiff, Nat.reduceAdd, Nat.reduceMul, Nat.reduceSub, reduceCtorEq, Nat.reduceLeDiff, Nat.reduceLT, Int.reduceLT, Int.reduceLE, Int.reduceToNat, Int.reduceAdd, Int.reduceSub, Int.reduceNeg, Int.reduceMul, Int.reduceEq, ← Bool.decide_and, ← Bool.decide_or, ↓tq_n, ↓tq_e, ↓tq_r, ↓bq_n, ↓bq_e, ↓bq_r, ↓rq_n, ↓rq_r, ↓rq_e]
  refine awp_loop (fun i : Nat => [(2, .sl n2 s.length (sps s) u2), (4, .sptr [I p.1, I p.2.1, I p.2.2]), (8, .map b1), (93, .sl n2 s.length (sps s) u2), (94, I s.length), (95, I i)]) (fun i => H) (fun i => i ≤ s.length ∧ ∀ j, j < i → ∀ k, j < k → k < s.length → ¬ cfS l p (s.getD k dS) (s.getD j dS)) (fun i => s.length - i) 0 ⟨Nat.zero_le _, fun j hj => absurd hj (Nat.not_lt_zero _)⟩ (GStep.forget (by repeat' first | exact EnvLe.nil _ | refine EnvLe.cons (AV.le.of_eq rfl) ?_ | refine EnvLe.cons (AV.le.undef _) ?_ | refine EnvLe.cons AV.le.unk ?_) (by repeat' first | exact AH.le.refl _ | assumption | (refine AH.le_put ?_ (by first | assumption | exact (AH.blk_put_ne _ _ (by assumption)).trans (by assumption) | exact AH.none_put (by assumption) | exact AH.none_put (AH.none_put (by assumption)) | (simp only [AH.blk_setTok, AH.tok_put] at *; first | assumption | exact AH.none_put (by assumption)))) | (refine AH.le_setTok ?_ (by first | assumption | exact (AH.blk_put_ne _ _ (by assumption)).trans (by assumption) | exact AH.none_put (by assumption) | exact AH.none_put (AH.none_put (by assumption)) | (simp only [AH.blk_setTok, AH.tok_put] at *; first | assumption | exact AH.none_put (by assumption)))) | (refine AH.le_putM ?_ (by first | assumption | exact (AH.mp_putM_ne _ _ (by assumption)).trans (by assumption) | (simp only [AH.mp_put, AH.mp_setTok] at *; assumption))))) fun i hi => .of_vg hm ?_
  obtain ⟨r1, r2⟩ := hi
  by_cases h3 : i < s.length
  case neg =>
    have h3 : i = s.length := by omega
    subst h3
    simp only [F_plate_Check, g_plate_Check, go_sem, reduceIte, Nat.reduceEqDiff, Nat.reduceAdd, Nat.reduceMul, Nat.reduceSub, reduceCtorEq, Nat.reduceLeDiff, Nat.reduceLT, Int.reduceLT, Int.reduceLE, Int.reduceToNat, Int.reduceAdd, Int.reduceSub, Int.reduceNeg, Int.reduceMul, Int.reduceEq, ← Bool.decide_and, ← Bool.decide_or, ↓tq_n, ↓tq_e, ↓tq_r, ↓bq_n, ↓bq_e, ↓bq_r, ↓rq_n, ↓rq_r, ↓rq_e]
    exact ret_hb hleH (by rw [ckQ_0 h0 hln h2 q2 (fun i hi k hk => r2 k (by omega) i hk hi)])
  have hc3 : (i : Int) < (s.length : Int) := by omega
  have hi1 : ((i : Int) + 1).toNat = i + 1 := by omega
  have hi2 : i + 1 ≤ s.length := by omega
  have htk : List.take ((s.length - (i + 1)) * 4) (List.drop ((i + 1) * 4) (sps s)) = sps (s.drop (i + 1)) := by
    rw [sps_dropn]
    exact List.take_of_length_le (by rw [sps_len, List.length_drop]; exact Nat.le_refl _)
  obtain ⟨r, hr⟩ : ∃ r, r = s.drop (i + 1) := ⟨_, rfl⟩
  have hrl : s.length - (i + 1) = r.length := by rw [hr, List.length_drop]
  have hrg : ∀ k, r.getD k dS = s.getD (i + 1 + k) dS := fun k => by rw [hr]; simp [List.getD, List.getElem?_drop]
  simp only [hc3, sps_drop h3, hi1, hi2, F_plate_Check, g_plate_Check, go_sem, reduceIte, Nat.reduceEqDiff, Nat.reduceAdd, Nat.reduceMul, Nat.reduceSub, reduceCtorEq, Nat.reduceLeDiff, Nat.reduceLT, Int.reduceLT, Int.reduceLE, Int.reduceToNat, Int.reduceAdd, Int.reduceSub, Int.reduceNeg, Int.reduceMul, Int.reduceEq, ← Bool.decide_and, ← Bool.decide_or, ↓tq_n, ↓tq_e, ↓tq_r, ↓bq_n, ↓bq_e, ↓bq_r, ↓rq_n, ↓rq_r, ↓rq_e]
  rw [htk, ← hr, hrl]
  refine ⟨by rw [inR64]; omega, by omega, ?_⟩
  refine awp_loop (fun k : Nat => [(2, .sl n2 s.length (sps s) u2), (4, .sptr [I p.1, I p.2.1, I p.2.2]), (8, .map b1), (19, .sptr [I (s.getD i dS).1, I (s.getD i dS).2.1, I (s.getD i dS).2.2.1, I (s.getD i dS).2.2.2]), (93, .sl n2 s.length (sps s) u2), (94, I s.length), (95, I i), (103, .sl n2 r.length (sps r) .unk), (104, I r.length), (105, I k)]) (fun k => H) (fun k => k ≤ r.length ∧ ∀ j, j < k → ¬ cfS l p (s.getD (i + 1 + j) dS) (s.getD i dS)) (fun k => r.length - k) 0 ⟨Nat.zero_le _, fun j hj => absurd hj (Nat.not_lt_zero _)⟩ (GStep.forget (by repeat' first | exact EnvLe.nil _ | refine EnvLe.cons (AV.le.of_eq rfl) ?_ | refine EnvLe.cons (AV.le.undef _) ?_ | refine EnvLe.cons AV.le.unk ?_) (by repeat' first | exact AH.le.refl _ | assumption | (refine AH.le_put ?_ (by first | assumption | exact (AH.blk_put_ne _ _ (by assumption)).trans (by assumption) | exact AH.none_put (by assumption) | exact AH.none_put (AH.none_put (by assumption)) | (simp only [AH.blk_setTok, AH.tok_put] at *; first | assumption | exact AH.none_put (by assumption)))) | (refine AH.le_setTok ?_ (by first | assumption | exact (AH.blk_put_ne _ _ (by assumption)).trans (by assumption) | exact AH.none_put (by assumption) | exact AH.none_put (AH.none_put (by assumption)) | (simp only [AH.blk_setTok, AH.tok_put] at *; first | assumption | exact AH.none_put (by assumption)))) | (refine AH.le_putM ?_ (by first | assumption | exact (AH.mp_putM_ne _ _ (by assumption)).trans (by assumption) | (simp only [AH.mp_put, AH.mp_setTok] at *; assumption))))) fun k hk => .of_vg hm ?_
  obtain ⟨z1, z2⟩ := hk
  by_cases z3 : k < r.length
  case neg =>
    have z3 : k = r.length := by omega
    subst z3
    simp only [F_plate_Check, g_plate_Check, go_sem, reduceIte, Nat.reduceEqDiff, Nat.reduceAdd, Nat.reduceMul, Nat.reduceSub, reduceCtorEq, Nat.reduceLeDiff, Nat.reduceLT, Int.reduceLT, Int.reduceLE, Int.reduceToNat, Int.reduceAdd, Int.reduceSub, Int.reduceNeg, Int.reduceMul, Int.reduceEq, ← Bool.decide_and, ← Bool.decide_or, ↓tq_n, ↓tq_e, ↓tq_r, ↓bq_n, ↓bq_e, ↓bq_r, ↓rq_n, ↓rq_r, ↓rq_e]
    refine ⟨by rw [inR64]; omega, i + 1, ⟨by omega, all_succ r2 (fun k hk1 hk2 => ?_)⟩, by omega, (GStep.forget (by repeat' first | exact EnvLe.nil _ | refine EnvLe.cons (AV.le.of_eq rfl) ?_ | refine EnvLe.cons (AV.le.undef _) ?_ | refine EnvLe.cons AV.le.unk ?_) (by repeat' first | exact AH.le.refl _ | assumption | (refine AH.le_put ?_ (by first | assumption | exact (AH.blk_put_ne _ _ (by assumption)).trans (by assumption) | exact AH.none_put (by assumption) | exact AH.none_put (AH.none_put (by assumption)) | (simp only [AH.blk_setTok, AH.tok_put] at *; first | assumption | exact AH.none_put (by assumption)))) | (refine AH.le_setTok ?_ (by first | assumption | exact (AH.blk_put_ne _ _ (by assumption)).trans (by assumption) | exact AH.none_put (by assumption) | exact AH.none_put (AH.none_put (by assumption)) | (simp only [AH.blk_setTok, AH.tok_put] at *; first | assumption | exact AH.none_put (by assumption)))) | (refine AH.le_putM ?_ (by first | assumption | exact (AH.mp_putM_ne _ _ (by assumption)).trans (by assumption) | (simp only [AH.mp_put, AH.mp_setTok] at *; assumption)))))⟩
    have := z2 (k - (i + 1)) (by omega)
    rwa [show i + 1 + (k - (i + 1)) = k by omega] at this
  have zc3 : (k : Int) < (r.length : Int) := by omega
  have hk : i + 1 + k < s.length := by omega
  have y1 := h2 i h3
  have y2 := h2 (i + 1 + k) hk
  have y1h : hasI l (s.getD i dS).1 := y1.1
  have y2h : hasI l (s.getD (i + 1 + k) dS).1 := y2.1
  have g1 := good_b gp (smI_fnd k5 y1) (q2 i h3)
  have g2 := good_b gp (smI_fnd k5 y2) (q2 (i + 1 + k) hk)
  have m1 := smI_fnd k5 y1
  have m2 := smI_fnd k5 y2
  unfold smI at m1 m2
  have hg := gp
  obtain ⟨hg1, hg2, hg3⟩ := hg
  simp only [zc3, sps_drop z3, hrg, hmH, find_ents, y1h, y2h, Option.getD_some, F_plate_Check, g_plate_Check, go_sem, reduceIte, Nat.reduceEqDiff, Nat.reduceAdd, Nat.reduceMul, Nat.reduceSub, reduceCtorEq, Nat.reduceLeDiff, Nat.reduceLT, Int.reduceLT, Int.reduceLE, Int.reduceToNat, Int.reduceAdd, Int.reduceSub, Int.reduceNeg, Int.reduceMul, Int.reduceEq, ← Bool.decide_and, ← Bool.decide_or, ↓tq_n, ↓tq_e, ↓tq_r, ↓bq_n, ↓bq_e, ↓bq_r, ↓rq_n, ↓rq_r, ↓rq_e]
  refine AllocG.mk fun b3 hb3 => ?_
  simp only [F_plate_Check, g_plate_Check, go_sem, reduceIte, Nat.reduceEqDiff, Nat.reduceAdd, Nat.reduceMul, Nat.reduceSub, reduceCtorEq, Nat.reduceLeDiff, Nat.reduceLT, Int.reduceLT, Int.reduceLE, Int.reduceToNat, Int.reduceAdd, Int.reduceSub, Int.reduceNeg, Int.reduceMul, Int.reduceEq, ← Bool.decide_and, ← Bool.decide_or, ↓tq_n, ↓tq_e, ↓tq_r, ↓bq_n, ↓bq_e, ↓bq_r, ↓rq_n, ↓rq_r, ↓rq_e]
  refine AllocG.mk fun b4 hb4 => ?_
  have hb43 : b4 ≠ b3 := fun hh => by subst hh; rw [AH.blk_put] at hb4; cases hb4
  have hb34 : b3 ≠ b4 := fun hh => hb43 hh.symm
  have hp1 : ∀ (H : AH) c, (H.put b4 c).blk b3 = H.blk b3 := fun H c => AH.blk_put_ne _ _ hb34
  have hp2 : ∀ (H : AH) c, (H.put b3 c).blk b4 = H.blk b4 := fun H c => AH.blk_put_ne _ _ hb43
  have hb4' : H.blk b4 = none := by rw [hp2] at hb4; exact hb4
  have hb3' : h'.blk b3 = none := by rw [hH] at hb3; exact hb3
  have hb4'' : h'.blk b4 = none := by rw [hH] at hb4'; exact hb4'
  simp only [hp1, hp2, F_plate_Check, g_plate_Check, go_sem, reduceIte, Nat.reduceEqDiff, Nat.reduceAdd, Nat.reduceMul, Nat.reduceSub, reduceCtorEq, Nat.reduceLeDiff, Nat.reduceLT, Int.reduceLT, Int.reduceLE, Int.reduceToNat, Int.reduceAdd, Int.reduceSub, Int.reduceNeg, Int.reduceMul, Int.reduceEq, ← Bool.decide_and, ← Bool.decide_or, ↓tq_n, ↓tq_e, ↓tq_r, ↓bq_n, ↓bq_e, ↓bq_r, ↓rq_n, ↓rq_r, ↓rq_e]
  refine ⟨fun c1 => ?_, fun c1 => ⟨by rw [inR64]; omega, k + 1, ⟨by omega, all_succ z2 (fun hh => c1 hh.1.symm)⟩, by omega, (GStep.forget (by repeat' first | exact EnvLe.nil _ | refine EnvLe.cons (AV.le.of_eq rfl) ?_ | refine EnvLe.cons (AV.le.undef _) ?_ | refine EnvLe.cons AV.le.unk ?_) (by repeat' first | exact AH.le.refl _ | assumption | (refine AH.le_put ?_ (by first | assumption | exact (AH.blk_put_ne _ _ (by assumption)).trans (by assumption) | exact AH.none_put (by assumption) | exact AH.none_put (AH.none_put (by assumption)) | (simp only [AH.blk_setTok, AH.tok_put] at *; first | assumption | exact AH.none_put (by assumption)))) | (refine AH.le_setTok ?_ (by first | assumption | exact (AH.blk_put_ne _ _ (by assumption)).trans (by assumption) | exact AH.none_put (by assumption) | exact AH.none_put (AH.none_put (by assumption)) | (simp only [AH.blk_setTok, AH.tok_put] at *; first | assumption | exact AH.none_put (by assumption)))) | (refine AH.le_putM ?_ (by first | assumption | exact (AH.mp_putM_ne _ _ (by assumption)).trans (by assumption) | (simp only [AH.mp_put, AH.mp_setTok] at *; assumption)))))⟩⟩
  refine CallG.mk (r_plate_near _ _ _ _ _ _ (by omega)) ?_
  by_cases c2 : nr (s.getD i dS).2.2.1 (fnd l (s.getD i dS).1).2.1 (s.getD (i + 1 + k) dS).2.2.1 (fnd l (s.getD (i + 1 + k) dS).1).2.1 p.2.2
  case neg =>
    rw [decide_eq_false c2]
    simp only [F_plate_Check, g_plate_Check, go_sem, reduceIte, Nat.reduceEqDiff, Nat.reduceAdd, Nat.reduceMul, Nat.reduceSub, reduceCtorEq, Nat.reduceLeDiff, Nat.reduceLT, Int.reduceLT, Int.reduceLE, Int.reduceToNat, Int.reduceAdd, Int.reduceSub, Int.reduceNeg, Int.reduceMul, Int.reduceEq, ← Bool.decide_and, ← Bool.decide_or, ↓tq_n, ↓tq_e, ↓tq_r, ↓bq_n, ↓bq_e, ↓bq_r, ↓rq_n, ↓rq_r, ↓rq_e]
    exact ⟨by rw [inR64]; omega, k + 1, ⟨by omega, all_succ z2 (fun hh => c2 (nr_symm hh.2.1))⟩, by omega, (GStep.forget (by repeat' first | exact EnvLe.nil _ | refine EnvLe.cons (AV.le.of_eq rfl) ?_ | refine EnvLe.cons (AV.le.undef _) ?_ | refine EnvLe.cons AV.le.unk ?_) (by repeat' first | exact AH.le.refl _ | assumption | (refine AH.le_put ?_ (by first | assumption | exact (AH.blk_put_ne _ _ (by assumption)).trans (by assumption) | exact AH.none_put (by assumption) | exact AH.none_put (AH.none_put (by assumption)) | (simp only [AH.blk_setTok, AH.tok_put] at *; first | assumption | exact AH.none_put (by assumption)))) | (refine AH.le_setTok ?_ (by first | assumption | exact (AH.blk_put_ne _ _ (by assumption)).trans (by assumption) | exact AH.none_put (by assumption) | exact AH.none_put (AH.none_put (by assumption)) | (simp only [AH.blk_setTok, AH.tok_put] at *; first | assumption | exact AH.none_put (by assumption)))) | (refine AH.le_putM ?_ (by first | assumption | exact (AH.mp_putM_ne _ _ (by assumption)).trans (by assumption) | (simp only [AH.mp_put, AH.mp_setTok] at *; assumption)))))⟩
  rw [decide_eq_true c2]
  simp only [hp1, hp2, F_plate_Check, g_plate_Check, go_sem, reduceIte, Nat.reduceEqDiff, Nat.reduceAdd, Nat.reduceMul, Nat.reduceSub, reduceCtorEq, Nat.reduceLeDiff, Nat.reduceLT, Int.reduceLT, Int.reduceLE, Int.reduceToNat, Int.reduceAdd, Int.reduceSub, Int.reduceNeg, Int.reduceMul, Int.reduceEq, ← Bool.decide_and, ← Bool.decide_or, ↓tq_n, ↓tq_e, ↓tq_r, ↓bq_n, ↓bq_e, ↓bq_r, ↓rq_n, ↓rq_r, ↓rq_e]
  refine CallG.mk (r_plate_near _ _ _ _ _ _ (by omega)) ?_
  by_cases c3 : nr (s.getD i dS).2.2.2 (fnd l (s.getD i dS).1).2.2 (s.getD (i + 1 + k) dS).2.2.2 (fnd l (s.getD (i + 1 + k) dS).1).2.2 p.2.2
  case neg =>
    rw [decide_eq_false c3]
    simp only [F_plate_Check, g_plate_Check, go_sem, reduceIte, Nat.reduceEqDiff, Nat.reduceAdd, Nat.reduceMul, Nat.reduceSub, reduceCtorEq, Nat.reduceLeDiff, Nat.reduceLT, Int.reduceLT, Int.reduceLE, Int.reduceToNat, Int.reduceAdd, Int.reduceSub, Int.reduceNeg, Int.reduceMul, Int.reduceEq, ← Bool.decide_and, ← Bool.decide_or, ↓tq_n, ↓tq_e, ↓tq_r, ↓bq_n, ↓bq_e, ↓bq_r, ↓rq_n, ↓rq_r, ↓rq_e]
    exact ⟨by rw [inR64]; omega, k + 1, ⟨by omega, all_succ z2 (fun hh => c3 (nr_symm hh.2.2))⟩, by omega, (GStep.forget (by repeat' first | exact EnvLe.nil _ | refine EnvLe.cons (AV.le.of_eq rfl) ?_ | refine EnvLe.cons (AV.le.undef _) ?_ | refine EnvLe.cons AV.le.unk ?_) (by repeat' first | exact AH.le.refl _ | assumption | (refine AH.le_put ?_ (by first | assumption | exact (AH.blk_put_ne _ _ (by assumption)).trans (by assumption) | exact AH.none_put (by assumption) | exact AH.none_put (AH.none_put (by assumption)) | (simp only [AH.blk_setTok, AH.tok_put] at *; first | assumption | exact AH.none_put (by assumption)))) | (refine AH.le_setTok ?_ (by first | assumption | exact (AH.blk_put_ne _ _ (by assumption)).trans (by assumption) | exact AH.none_put (by assumption) | exact AH.none_put (AH.none_put (by assumption)) | (simp only [AH.blk_setTok, AH.tok_put] at *; first | assumption | exact AH.none_put (by assumption)))) | (refine AH.le_putM ?_ (by first | assumption | exact (AH.mp_putM_ne _ _ (by assumption)).trans (by assumption) | (simp only [AH.mp_put, AH.mp_setTok] at *; assumption)))))⟩
  rw [decide_eq_true c3]
  simp only [F_plate_Check, g_plate_Check, go_sem, reduceIte, Nat.reduceEqDiff, Nat.reduceAdd, Nat.reduceMul, Nat.reduceSub, reduceCtorEq, Nat.reduceLeDiff, Nat.reduceLT, Int.reduceLT, Int.reduceLE, Int.reduceToNat, Int.reduceAdd, Int.reduceSub, Int.reduceNeg, Int.reduceMul, Int.reduceEq, ← Bool.decide_and, ← Bool.decide_or, ↓tq_n, ↓tq_e, ↓tq_r, ↓bq_n, ↓bq_e, ↓bq_r, ↓rq_n, ↓rq_r, ↓rq_e]
  exact ret_hb (AH.le_put (AH.le_put (AH.le_put (AH.le_put hleH hb3') hb4'') hb3') hb4'') (by rw [ckQ_c h0 hln h2 q2 hk (show i < i + 1 + k by omega) ⟨c1.symm, nr_symm c2, nr_symm c3⟩])
end Go.Proofs.Ytkoecjhjdckgeaa
