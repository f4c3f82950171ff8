/- Calls of functions of this seat's program: the reference's lists in order, and what its Make and Withdraw do to them. No condition. -/
import Derived.Test.YtcnmodnafnadlaaD2
namespace Go.Proofs.Ytcnmodnafnadlaa
open Go Go.Abs
set_option linter.unusedSimpArgs false
set_option linter.unusedVariables false
set_option maxRecDepth 20000

/-- Where a mark belongs. -/
def psD (a : List Dec) (x : Dec) : Nat := a.findIdx fun y => !decide (mlt y.mk2 x.mk2)
def psM (a : List (Int × Int)) (x : Int × Int) : Nat := a.findIdx fun y => !decide (mlt y x)
theorem psD_le (a : List Dec) (x : Dec) : psD a x ≤ a.length := List.findIdx_le_length
theorem psM_le (a : List (Int × Int)) (x : Int × Int) : psM a x ≤ a.length := List.findIdx_le_length
theorem getD_lt {α : Type} {A : List α} {i : Nat} (d : α) (h : i < A.length) : A.getD i d = A[i] := by simp [List.getD, h]
theorem psD_lt {a : List Dec} {x : Dec} {k : Nat} (h : k < psD a x) : mlt (a.getD k dD).mk2 x.mk2 := by
  have h1 : k < a.length := Nat.lt_of_lt_of_le h (psD_le a x)
  have := List.not_of_lt_findIdx h
  rw [getD_lt dD h1]
  simpa using this
theorem psM_lt {a : List (Int × Int)} {x : Int × Int} {k : Nat} (h : k < psM a x) : mlt (a.getD k (0, 0)) x := by
  have h1 : k < a.length := Nat.lt_of_lt_of_le h (psM_le a x)
  have := List.not_of_lt_findIdx h
  rw [getD_lt (0, 0) h1]
  simpa using this
theorem psD_at {a : List Dec} {x : Dec} (h : psD a x < a.length) : ¬ mlt (a.getD (psD a x) dD).mk2 x.mk2 := by
  have := List.findIdx_getElem (w := h)
  rw [getD_lt dD h]
  unfold psD
  simpa using this
theorem psM_at {a : List (Int × Int)} {x : Int × Int} (h : psM a x < a.length) : ¬ mlt (a.getD (psM a x) (0, 0)) x := by
  have := List.findIdx_getElem (w := h)
  rw [getD_lt (0, 0) h]
  unfold psM
  simpa using this
/-- A decision, or a mark, put into its place. -/
def insD (a : List Dec) (x : Dec) : Option (List Dec) :=
  if psD a x < a.length ∧ (a.getD (psD a x) dD).mk2 = x.mk2 then (if a.getD (psD a x) dD = x then some a else none) else some (a.take (psD a x) ++ [x] ++ a.drop (psD a x))
def insM (a : List (Int × Int)) (x : Int × Int) : List (Int × Int) :=
  if psM a x < a.length ∧ a.getD (psM a x) (0, 0) = x then a else a.take (psM a x) ++ [x] ++ a.drop (psM a x)
def decF (a : List Dec) : List Dec → Option (List Dec)
  | [] => some a
  | x :: b => match insD a x with
    | some a' => decF a' b
    | none => none
def mksF (a : List (Int × Int)) (b : List (Int × Int)) : List (Int × Int) := b.foldl insM a
theorem decF_snoc (b : List Dec) (x : Dec) : ∀ a, decF a (b ++ [x]) = (decF a b).bind fun a' => insD a' x := by
  induction b with
  | nil =>
    intro a
    simp only [List.nil_append, decF]
    show _ = insD a x
    cases insD a x <;> rfl
  | cons y b ih =>
    intro a
    simp only [List.cons_append, decF]
    cases insD a y with
    | none => rfl
    | some a' => exact ih a'
theorem decF_none (c : List Dec) : ∀ (b : List Dec) (a : List Dec), decF a b = none → decF a (b ++ c) = none := by
  intro b
  induction b with
  | nil => intro a h; cases h
  | cons y b ih =>
    intro a h
    simp only [List.cons_append, decF] at h ⊢
    cases hi : insD a y with
    | none => rfl
    | some a' => rw [hi] at h; exact ih a' h
theorem tok_none {h : AH} {t n m u : Nat} (k : (h.setTok t n m).tok u = none) : h.tok u = none := by
  simp only [AH.setTok] at k
  split at k
  · cases k
  · exact k
theorem dcs_append (l m : List Dec) : dcs (l ++ m) = dcs l ++ dcs m := by simp [dcs]
theorem dcs_dropk (l : List Dec) (k : Nat) : (dcs l).drop (k * 5) = dcs (l.drop k) := by
  induction l generalizing k with
  | nil => simp [dcs]
  | cons x l ih =>
    cases k with
    | zero => simp
    | succ k =>
      have e : dcs (x :: l) = I x.au :: I x.nu :: I x.ki :: I x.a :: I x.b :: dcs l := rfl
      rw [e, show (k + 1) * 5 = k * 5 + 1 + 1 + 1 + 1 + 1 by omega, List.drop_succ_cons, List.drop_succ_cons, List.drop_succ_cons, List.drop_succ_cons, List.drop_succ_cons, ih]; rfl
theorem dcs_take (l : List Dec) (k : Nat) : (dcs l).take (k * 5) = dcs (l.take k) := by
  induction l generalizing k with
  | nil => simp [dcs]
  | cons x l ih =>
    cases k with
    | zero => simp [dcs]
    | succ k =>
      have e : dcs (x :: l) = I x.au :: I x.nu :: I x.ki :: I x.a :: I x.b :: dcs l := rfl
      rw [e, show (k + 1) * 5 = k * 5 + 1 + 1 + 1 + 1 + 1 by omega, List.take_succ_cons, List.take_succ_cons, List.take_succ_cons, List.take_succ_cons, List.take_succ_cons, ih]; rfl
theorem ins_len {α : Type} {out : List α} {x : α} {s : Nat} : (out.take s ++ [x] ++ out.drop s).length = out.length + 1 := by
  simp only [List.length_append, List.length_take, List.length_drop, List.length_singleton]
  omega
def dcV (o : Option (List Dec)) : AV := match o with
  | some o => .tup [.sl false o.length (dcs o) .unk, .bool true]
  | none => .tup [.sl true 0 [] .full, .bool false]
set_option maxHeartbeats 4000000 in
theorem r_ref_decisions (n1 : Bool) (a : List Dec) (u1 : Tail) (n2 : Bool) (b : List Dec) (u2 : Tail) (ha : a.length ≤ 1000) (hb : b.length ≤ 1000) (h : AH) : RCall Try.prog n_ref_decisions [.sl n1 a.length (dcs a) u1, .sl n2 b.length (dcs b) u2] h (dcV (decF a b)) := by
  refine RCall.of hm cF_ref_decisions (by simp [g_ref_decisions]) fun hw h' hl => ?_
  simp only [F_ref_decisions, g_ref_decisions, go_sem, reduceIte, Nat.reduceEqDiff, Nat.reduceAdd, Nat.reduceMul, Nat.reduceSub, reduceCtorEq, Nat.reduceLeDiff, Nat.reduceLT, Int.reduceLT, Int.reduceLE, Int.reduceToNat, Int.reduceAdd, Int.reduceSub, Int.reduceNeg, Int.reduceMul, Int.reduceEq, ← Bool.decide_and, ← Bool.decide_or, ↓tq_n, ↓tq_e, ↓tq_r, ↓bq_n, ↓bq_e, ↓bq_r, ↓rq_n, ↓rq_r, ↓rq_e]
  refine ⟨dcs_len a, by omega, by omega, TokG.mk fun t ht => ?_⟩
  simp only [F_ref_decisions, g_ref_decisions, go_sem, reduceIte, Nat.reduceEqDiff, Nat.reduceAdd, Nat.reduceMul, Nat.reduceSub, reduceCtorEq, Nat.reduceLeDiff, Nat.reduceLT, Int.reduceLT, Int.reduceLE, Int.reduceToNat, Int.reduceAdd, Int.reduceSub, Int.reduceNeg, Int.reduceMul, Int.reduceEq, ← Bool.decide_and, ← Bool.decide_or, ↓tq_n, ↓tq_e, ↓tq_r, ↓bq_n, ↓bq_e, ↓bq_r, ↓rq_n, ↓rq_r, ↓rq_e]
  refine awp_loop (α := Nat × List Dec) (fun p => [(1, .sl n2 b.length (dcs b) u2), (6, .sl false p.2.length (dcs p.2) .unk), (7, I p.1)]) (fun _ => h') (fun p => p.1 ≤ b.length ∧ decF a (b.take p.1) = some p.2 ∧ p.2.length ≤ a.length + p.1) (fun p => b.length - p.1) (0, a) ⟨Nat.zero_le _, by simp [decF], by simp⟩ (GStep.forget (by repeat' first | exact EnvLe.nil _ | refine EnvLe.cons (AV.le.of_eq rfl) ?_ | refine EnvLe.cons (AV.le.undef _) ?_ | refine EnvLe.cons AV.le.unk ?_) (by repeat' first | exact AH.le.refl _ | assumption | (refine AH.le_put ?_ (by first | assumption | exact (AH.blk_put_ne _ _ (by assumption)).trans (by assumption) | exact AH.none_put (by assumption) | exact AH.none_put (AH.none_put (by assumption)) | (simp only [AH.blk_setTok, AH.tok_put] at *; first | assumption | exact AH.none_put (by assumption)))) | (refine AH.le_setTok ?_ (by first | assumption | exact (AH.blk_put_ne _ _ (by assumption)).trans (by assumption) | exact AH.none_put (by assumption) | exact AH.none_put (AH.none_put (by assumption)) | (simp only [AH.blk_setTok, AH.tok_put] at *; first | assumption | exact AH.none_put (by assumption)))) | (refine AH.le_putM ?_ (by first | assumption | exact (AH.mp_putM_ne _ _ (by assumption)).trans (by assumption) | (simp only [AH.mp_put, AH.mp_setTok] at *; assumption))))) fun p hp => .of_vg hm ?_
  obtain ⟨i, out⟩ := p
  obtain ⟨p1, p2, p3⟩ := hp
  simp only at p1 p2 p3 ⊢
  by_cases h3 : i < b.length
  case neg =>
    have h3 : i = b.length := by omega
    subst h3
    rw [List.take_length] at p2
    simp only [F_ref_decisions, g_ref_decisions, go_sem, reduceIte, Nat.reduceEqDiff, Nat.reduceAdd, Nat.reduceMul, Nat.reduceSub, reduceCtorEq, Nat.reduceLeDiff, Nat.reduceLT, Int.reduceLT, Int.reduceLE, Int.reduceToNat, Int.reduceAdd, Int.reduceSub, Int.reduceNeg, Int.reduceMul, Int.reduceEq, ← Bool.decide_and, ← Bool.decide_or, ↓tq_n, ↓tq_e, ↓tq_r, ↓bq_n, ↓bq_e, ↓bq_r, ↓rq_n, ↓rq_r, ↓rq_e]
    exact ret_ok (by rw [p2]; rfl)
  have hc : (i : Int) < (b.length : Int) := by omega
  have hsn : decF a (b.take (i + 1)) = insD out (b.getD i dD) := by rw [take_getD dD h3, decF_snoc, p2]; rfl
  obtain ⟨x, hx⟩ : ∃ x, x = b.getD i dD := ⟨_, rfl⟩
  have hdb := dcs_drop h3
  rw [← hx] at hsn hdb
  have hps := psD_le out x
  simp only [hc, F_ref_decisions, g_ref_decisions, go_sem, reduceIte, Nat.reduceEqDiff, Nat.reduceAdd, Nat.reduceMul, Nat.reduceSub, reduceCtorEq, Nat.reduceLeDiff, Nat.reduceLT, Int.reduceLT, Int.reduceLE, Int.reduceToNat, Int.reduceAdd, Int.reduceSub, Int.reduceNeg, Int.reduceMul, Int.reduceEq, ← Bool.decide_and, ← Bool.decide_or, ↓tq_n, ↓tq_e, ↓tq_r, ↓bq_n, ↓bq_e, ↓bq_r, ↓rq_n, ↓rq_r, ↓rq_e]
  refine awp_loop (fun k : Nat => [(1, .sl n2 b.length (dcs b) u2), (6, .sl false out.length (dcs out) .unk), (7, I i), (8, I k)]) (fun _ => h') (fun k => k ≤ psD out x) (fun k => psD out x - k) 0 (Nat.zero_le _) (GStep.forget (by repeat' first | exact EnvLe.nil _ | refine EnvLe.cons (AV.le.of_eq rfl) ?_ | refine EnvLe.cons (AV.le.undef _) ?_ | refine EnvLe.cons AV.le.unk ?_) (by repeat' first | exact AH.le.refl _ | assumption | (refine AH.le_put ?_ (by first | assumption | exact (AH.blk_put_ne _ _ (by assumption)).trans (by assumption) | exact AH.none_put (by assumption) | exact AH.none_put (AH.none_put (by assumption)) | (simp only [AH.blk_setTok, AH.tok_put] at *; first | assumption | exact AH.none_put (by assumption)))) | (refine AH.le_setTok ?_ (by first | assumption | exact (AH.blk_put_ne _ _ (by assumption)).trans (by assumption) | exact AH.none_put (by assumption) | exact AH.none_put (AH.none_put (by assumption)) | (simp only [AH.blk_setTok, AH.tok_put] at *; first | assumption | exact AH.none_put (by assumption)))) | (refine AH.le_putM ?_ (by first | assumption | exact (AH.mp_putM_ne _ _ (by assumption)).trans (by assumption) | (simp only [AH.mp_put, AH.mp_setTok] at *; assumption))))) fun k hk => .of_vg hm ?_
  have hk0 : (0 : Int) ≤ (k : Int) := by omega
  have hi0 : (0 : Int) ≤ (i : Int) := by omega
  have hkl : k ≤ out.length := by omega
  have htk2 : (out.drop k).take (out.length - k) = out.drop k := List.take_of_length_le (by rw [List.length_drop]; exact Nat.le_refl _)
  have hpr : dcs (out.take k) ++ (I x.au :: I x.nu :: I x.ki :: I x.a :: I x.b :: dcs (out.drop k)) = dcs (out.take k ++ [x] ++ out.drop k) := by
    rw [List.append_assoc, dcs_append, dcs_append]; rfl
  have hlen : k + (1 + (out.length - k)) = (out.take k ++ [x] ++ out.drop k).length := by rw [ins_len]; omega
  by_cases h4 : k < out.length
  · have hck : (k : Int) < (out.length : Int) := by omega
    have hdo := dcs_drop h4
    obtain ⟨y, hy⟩ : ∃ y, y = out.getD k dD := ⟨_, rfl⟩
    rw [← hy] at hdo
    simp only [hc, hck, decide_eq_true hck, hk0, hi0, hdb, hdo, F_ref_decisions, g_ref_decisions, go_sem, reduceIte, Nat.reduceEqDiff, Nat.reduceAdd, Nat.reduceMul, Nat.reduceSub, reduceCtorEq, Nat.reduceLeDiff, Nat.reduceLT, Int.reduceLT, Int.reduceLE, Int.reduceToNat, Int.reduceAdd, Int.reduceSub, Int.reduceNeg, Int.reduceMul, Int.reduceEq, ← Bool.decide_and, ← Bool.decide_or, ↓tq_n, ↓tq_e, ↓tq_r, ↓bq_n, ↓bq_e, ↓bq_r, ↓rq_n, ↓rq_r, ↓rq_e]
    refine CallG.mk (r_ref_mark y _) ?_
    simp only [hc, hck, decide_eq_true hck, hk0, hi0, hdb, hdo, F_ref_decisions, g_ref_decisions, go_sem, reduceIte, Nat.reduceEqDiff, Nat.reduceAdd, Nat.reduceMul, Nat.reduceSub, reduceCtorEq, Nat.reduceLeDiff, Nat.reduceLT, Int.reduceLT, Int.reduceLE, Int.reduceToNat, Int.reduceAdd, Int.reduceSub, Int.reduceNeg, Int.reduceMul, Int.reduceEq, ← Bool.decide_and, ← Bool.decide_or, ↓tq_n, ↓tq_e, ↓tq_r, ↓bq_n, ↓bq_e, ↓bq_r, ↓rq_n, ↓rq_r, ↓rq_e]
    refine CallG.mk (r_ref_mark x _) ?_
    simp only [hc, hck, decide_eq_true hck, hk0, hi0, hdb, hdo, F_ref_decisions, g_ref_decisions, go_sem, reduceIte, Nat.reduceEqDiff, Nat.reduceAdd, Nat.reduceMul, Nat.reduceSub, reduceCtorEq, Nat.reduceLeDiff, Nat.reduceLT, Int.reduceLT, Int.reduceLE, Int.reduceToNat, Int.reduceAdd, Int.reduceSub, Int.reduceNeg, Int.reduceMul, Int.reduceEq, ← Bool.decide_and, ← Bool.decide_or, ↓tq_n, ↓tq_e, ↓tq_r, ↓bq_n, ↓bq_e, ↓bq_r, ↓rq_n, ↓rq_r, ↓rq_e]
    refine CallG.mk (r_ref_before y.mk2 x.mk2 _) ?_
    by_cases h5 : k < psD out x
    · have h6 := psD_lt h5
      rw [← hy] at h6
      simp only [decide_eq_true h6, F_ref_decisions, g_ref_decisions, go_sem, reduceIte, Nat.reduceEqDiff, Nat.reduceAdd, Nat.reduceMul, Nat.reduceSub, reduceCtorEq, Nat.reduceLeDiff, Nat.reduceLT, Int.reduceLT, Int.reduceLE, Int.reduceToNat, Int.reduceAdd, Int.reduceSub, Int.reduceNeg, Int.reduceMul, Int.reduceEq, ← Bool.decide_and, ← Bool.decide_or, ↓tq_n, ↓tq_e, ↓tq_r, ↓bq_n, ↓bq_e, ↓bq_r, ↓rq_n, ↓rq_r, ↓rq_e]
      exact ⟨by rw [inR64]; omega, k + 1, by omega, by omega, (GStep.forget (by repeat' first | exact EnvLe.nil _ | refine EnvLe.cons (AV.le.of_eq rfl) ?_ | refine EnvLe.cons (AV.le.undef _) ?_ | refine EnvLe.cons AV.le.unk ?_) (by repeat' first | exact AH.le.refl _ | assumption | (refine AH.le_put ?_ (by first | assumption | exact (AH.blk_put_ne _ _ (by assumption)).trans (by assumption) | exact AH.none_put (by assumption) | exact AH.none_put (AH.none_put (by assumption)) | (simp only [AH.blk_setTok, AH.tok_put] at *; first | assumption | exact AH.none_put (by assumption)))) | (refine AH.le_setTok ?_ (by first | assumption | exact (AH.blk_put_ne _ _ (by assumption)).trans (by assumption) | exact AH.none_put (by assumption) | exact AH.none_put (AH.none_put (by assumption)) | (simp only [AH.blk_setTok, AH.tok_put] at *; first | assumption | exact AH.none_put (by assumption)))) | (refine AH.le_putM ?_ (by first | assumption | exact (AH.mp_putM_ne _ _ (by assumption)).trans (by assumption) | (simp only [AH.mp_put, AH.mp_setTok] at *; assumption)))))⟩
    have h5 : k = psD out x := by omega
    have h6 := psD_at (a := out) (x := x) (by omega)
    rw [← h5, ← hy] at h6
    simp only [decide_eq_false h6, hc, hck, decide_eq_true hck, hk0, hi0, hdb, hdo, F_ref_decisions, g_ref_decisions, go_sem, reduceIte, Nat.reduceEqDiff, Nat.reduceAdd, Nat.reduceMul, Nat.reduceSub, reduceCtorEq, Nat.reduceLeDiff, Nat.reduceLT, Int.reduceLT, Int.reduceLE, Int.reduceToNat, Int.reduceAdd, Int.reduceSub, Int.reduceNeg, Int.reduceMul, Int.reduceEq, ← Bool.decide_and, ← Bool.decide_or, ↓tq_n, ↓tq_e, ↓tq_r, ↓bq_n, ↓bq_e, ↓bq_r, ↓rq_n, ↓rq_r, ↓rq_e]
    refine CallG.mk (r_ref_mark y _) ?_
    simp only [hc, hck, decide_eq_true hck, hk0, hi0, hdb, hdo, F_ref_decisions, g_ref_decisions, go_sem, reduceIte, Nat.reduceEqDiff, Nat.reduceAdd, Nat.reduceMul, Nat.reduceSub, reduceCtorEq, Nat.reduceLeDiff, Nat.reduceLT, Int.reduceLT, Int.reduceLE, Int.reduceToNat, Int.reduceAdd, Int.reduceSub, Int.reduceNeg, Int.reduceMul, Int.reduceEq, ← Bool.decide_and, ← Bool.decide_or, ↓tq_n, ↓tq_e, ↓tq_r, ↓bq_n, ↓bq_e, ↓bq_r, ↓rq_n, ↓rq_r, ↓rq_e]
    refine CallG.mk (r_ref_mark x _) ?_
    by_cases h7 : y.mk2 = x.mk2
    · have h8 : y.au = x.au ∧ y.nu = x.nu := ⟨congrArg Prod.fst h7, congrArg Prod.snd h7⟩
      by_cases h9 : y = x
      · have hins : insD out x = some out := by unfold insD; rw [← h5, if_pos ⟨h4, by rw [← hy]; exact h7⟩, ← hy, if_pos h9]
        have h10 : y.au = x.au ∧ y.nu = x.nu ∧ y.ki = x.ki ∧ y.a = x.a ∧ y.b = x.b := by subst h9; exact ⟨rfl, rfl, rfl, rfl, rfl⟩
        simp only [hc, hck, decide_eq_true hck, hk0, hi0, hdb, hdo, Dec.mk2, eqCells, decide_eq_true h8.1, decide_eq_true h8.2, decide_eq_true h10.2.2.1, decide_eq_true h10.2.2.2.1, decide_eq_true h10.2.2.2.2, F_ref_decisions, g_ref_decisions, go_sem, reduceIte, Nat.reduceEqDiff, Nat.reduceAdd, Nat.reduceMul, Nat.reduceSub, reduceCtorEq, Nat.reduceLeDiff, Nat.reduceLT, Int.reduceLT, Int.reduceLE, Int.reduceToNat, Int.reduceAdd, Int.reduceSub, Int.reduceNeg, Int.reduceMul, Int.reduceEq, ← Bool.decide_and, ← Bool.decide_or, ↓tq_n, ↓tq_e, ↓tq_r, ↓bq_n, ↓bq_e, ↓bq_r, ↓rq_n, ↓rq_r, ↓rq_e]
        exact ⟨by rw [inR64]; omega, (i + 1, out), ⟨by simp only; omega, by simp only; rw [hsn, hins], by simp only; omega⟩, by simp only; omega, (GStep.forget (by repeat' first | exact EnvLe.nil _ | refine EnvLe.cons (AV.le.of_eq rfl) ?_ | refine EnvLe.cons (AV.le.undef _) ?_ | refine EnvLe.cons AV.le.unk ?_) (by repeat' first | exact AH.le.refl _ | assumption | (refine AH.le_put ?_ (by first | assumption | exact (AH.blk_put_ne _ _ (by assumption)).trans (by assumption) | exact AH.none_put (by assumption) | exact AH.none_put (AH.none_put (by assumption)) | (simp only [AH.blk_setTok, AH.tok_put] at *; first | assumption | exact AH.none_put (by assumption)))) | (refine AH.le_setTok ?_ (by first | assumption | exact (AH.blk_put_ne _ _ (by assumption)).trans (by assumption) | exact AH.none_put (by assumption) | exact AH.none_put (AH.none_put (by assumption)) | (simp only [AH.blk_setTok, AH.tok_put] at *; first | assumption | exact AH.none_put (by assumption)))) | (refine AH.le_putM ?_ (by first | assumption | exact (AH.mp_putM_ne _ _ (by assumption)).trans (by assumption) | (simp only [AH.mp_put, AH.mp_setTok] at *; assumption)))))⟩
      · have hins : insD out x = none := by unfold insD; rw [← h5, if_pos ⟨h4, by rw [← hy]; exact h7⟩, ← hy, if_neg h9]
        have h10 : ¬ (y.ki = x.ki ∧ y.a = x.a ∧ y.b = x.b) := fun hh => h9 (Dec.ext' ⟨h8.1, h8.2, hh⟩)
        simp only [hc, hck, decide_eq_true hck, hk0, hi0, hdb, hdo, Dec.mk2, eqCells, decide_eq_true h8.1, decide_eq_true h8.2, h10, Bool.true_and, Bool.and_false, Bool.not_false, decide_eq_false h10, F_ref_decisions, g_ref_decisions, go_sem, reduceIte, Nat.reduceEqDiff, Nat.reduceAdd, Nat.reduceMul, Nat.reduceSub, reduceCtorEq, Nat.reduceLeDiff, Nat.reduceLT, Int.reduceLT, Int.reduceLE, Int.reduceToNat, Int.reduceAdd, Int.reduceSub, Int.reduceNeg, Int.reduceMul, Int.reduceEq, ← Bool.decide_and, ← Bool.decide_or, ↓tq_n, ↓tq_e, ↓tq_r, ↓bq_n, ↓bq_e, ↓bq_r, ↓rq_n, ↓rq_r, ↓rq_e]
        have hnn : decF a b = none := by
          have := decF_none (b.drop (i + 1)) (b.take (i + 1)) a (by rw [hsn, hins])
          rwa [List.take_append_drop] at this
        exact ret_ok (by rw [hnn]; rfl)
    · have h8 : ¬ (y.au = x.au ∧ y.nu = x.nu) := fun hh => h7 (Prod.ext hh.1 hh.2)
      have hins : insD out x = some (out.take k ++ [x] ++ out.drop k) := by unfold insD; rw [← h5, if_neg fun hh => h7 (by rw [hy]; exact hh.2)]
      simp only [hc, hck, decide_eq_true hck, hk0, hi0, hdb, Dec.mk2, eqCells, h8, decide_eq_false h8, Nat.sub_zero, dcs_take, dcs_dropk, F_ref_decisions, g_ref_decisions, go_sem, reduceIte, Nat.reduceEqDiff, Nat.reduceAdd, Nat.reduceMul, Nat.reduceSub, reduceCtorEq, Nat.reduceLeDiff, Nat.reduceLT, Int.reduceLT, Int.reduceLE, Int.reduceToNat, Int.reduceAdd, Int.reduceSub, Int.reduceNeg, Int.reduceMul, Int.reduceEq, ← Bool.decide_and, ← Bool.decide_or, ↓tq_n, ↓tq_e, ↓tq_r, ↓bq_n, ↓bq_e, ↓bq_r, ↓rq_n, ↓rq_r, ↓rq_e]
      refine ⟨hkl, Nat.zero_le _, hkl, by rw [dcs_len, List.length_take, List.length_drop]; omega, by omega, by omega, TokG.mk fun t1 ht1 => ?_⟩
      simp only [Nat.sub_zero, dcs_take, dcs_dropk, F_ref_decisions, g_ref_decisions, go_sem, reduceIte, Nat.reduceEqDiff, Nat.reduceAdd, Nat.reduceMul, Nat.reduceSub, reduceCtorEq, Nat.reduceLeDiff, Nat.reduceLT, Int.reduceLT, Int.reduceLE, Int.reduceToNat, Int.reduceAdd, Int.reduceSub, Int.reduceNeg, Int.reduceMul, Int.reduceEq, ← Bool.decide_and, ← Bool.decide_or, ↓tq_n, ↓tq_e, ↓tq_r, ↓bq_n, ↓bq_e, ↓bq_r, ↓rq_n, ↓rq_r, ↓rq_e]
      simp only [htk2, Bool.false_and]
      refine ⟨by rw [dcs_len, List.length_take]; omega, by simp only [dcs_len, List.length_drop]; omega, by omega, by omega, TokG.mk fun t2 ht2 => ?_⟩
      have ht3 := tok_none ht2
      simp only [F_ref_decisions, g_ref_decisions, go_sem, reduceIte, Nat.reduceEqDiff, Nat.reduceAdd, Nat.reduceMul, Nat.reduceSub, reduceCtorEq, Nat.reduceLeDiff, Nat.reduceLT, Int.reduceLT, Int.reduceLE, Int.reduceToNat, Int.reduceAdd, Int.reduceSub, Int.reduceNeg, Int.reduceMul, Int.reduceEq, ← Bool.decide_and, ← Bool.decide_or, ↓tq_n, ↓tq_e, ↓tq_r, ↓bq_n, ↓bq_e, ↓bq_r, ↓rq_n, ↓rq_r, ↓rq_e]
      refine ⟨by rw [inR64]; omega, (i + 1, out.take k ++ [x] ++ out.drop k), ⟨by simp only; omega, by simp only; rw [hsn, hins], by simp only; rw [ins_len]; omega⟩, by simp only; omega, ?_⟩
      simp only [hpr, hlen]
      exact (GStep.forget (by repeat' first | exact EnvLe.nil _ | refine EnvLe.cons (AV.le.of_eq rfl) ?_ | refine EnvLe.cons (AV.le.undef _) ?_ | refine EnvLe.cons AV.le.unk ?_) (by repeat' first | exact AH.le.refl _ | assumption | (refine AH.le_put ?_ (by first | assumption | exact (AH.blk_put_ne _ _ (by assumption)).trans (by assumption) | exact AH.none_put (by assumption) | exact AH.none_put (AH.none_put (by assumption)) | (simp only [AH.blk_setTok, AH.tok_put] at *; first | assumption | exact AH.none_put (by assumption)))) | (refine AH.le_setTok ?_ (by first | assumption | exact (AH.blk_put_ne _ _ (by assumption)).trans (by assumption) | exact AH.none_put (by assumption) | exact AH.none_put (AH.none_put (by assumption)) | (simp only [AH.blk_setTok, AH.tok_put] at *; first | assumption | exact AH.none_put (by assumption)))) | (refine AH.le_putM ?_ (by first | assumption | exact (AH.mp_putM_ne _ _ (by assumption)).trans (by assumption) | (simp only [AH.mp_put, AH.mp_setTok] at *; assumption)))))
  · have h4 : k = out.length := by omega
    have hck : ¬ (k : Int) < (out.length : Int) := by omega
    have hins : insD out x = some (out.take k ++ [x] ++ out.drop k) := by unfold insD; rw [show psD out x = k by omega, if_neg fun hh => by omega]
    simp only [hc, hck, decide_eq_false hck, hk0, hi0, hdb, Nat.sub_zero, dcs_take, dcs_dropk, F_ref_decisions, g_ref_decisions, go_sem, reduceIte, Nat.reduceEqDiff, Nat.reduceAdd, Nat.reduceMul, Nat.reduceSub, reduceCtorEq, Nat.reduceLeDiff, Nat.reduceLT, Int.reduceLT, Int.reduceLE, Int.reduceToNat, Int.reduceAdd, Int.reduceSub, Int.reduceNeg, Int.reduceMul, Int.reduceEq, ← Bool.decide_and, ← Bool.decide_or, ↓tq_n, ↓tq_e, ↓tq_r, ↓bq_n, ↓bq_e, ↓bq_r, ↓rq_n, ↓rq_r, ↓rq_e]
    refine ⟨hkl, Nat.zero_le _, hkl, by rw [dcs_len, List.length_take, List.length_drop]; omega, by omega, by omega, TokG.mk fun t1 ht1 => ?_⟩
    simp only [Nat.sub_zero, dcs_take, dcs_dropk, F_ref_decisions, g_ref_decisions, go_sem, reduceIte, Nat.reduceEqDiff, Nat.reduceAdd, Nat.reduceMul, Nat.reduceSub, reduceCtorEq, Nat.reduceLeDiff, Nat.reduceLT, Int.reduceLT, Int.reduceLE, Int.reduceToNat, Int.reduceAdd, Int.reduceSub, Int.reduceNeg, Int.reduceMul, Int.reduceEq, ← Bool.decide_and, ← Bool.decide_or, ↓tq_n, ↓tq_e, ↓tq_r, ↓bq_n, ↓bq_e, ↓bq_r, ↓rq_n, ↓rq_r, ↓rq_e]
    simp only [htk2, Bool.false_and]
    refine ⟨by rw [dcs_len, List.length_take]; omega, by simp only [dcs_len, List.length_drop]; omega, by omega, by omega, TokG.mk fun t2 ht2 => ?_⟩
    have ht3 := tok_none ht2
    simp only [F_ref_decisions, g_ref_decisions, go_sem, reduceIte, Nat.reduceEqDiff, Nat.reduceAdd, Nat.reduceMul, Nat.reduceSub, reduceCtorEq, Nat.reduceLeDiff, Nat.reduceLT, Int.reduceLT, Int.reduceLE, Int.reduceToNat, Int.reduceAdd, Int.reduceSub, Int.reduceNeg, Int.reduceMul, Int.reduceEq, ← Bool.decide_and, ← Bool.decide_or, ↓tq_n, ↓tq_e, ↓tq_r, ↓bq_n, ↓bq_e, ↓bq_r, ↓rq_n, ↓rq_r, ↓rq_e]
    refine ⟨by rw [inR64]; omega, (i + 1, out.take k ++ [x] ++ out.drop k), ⟨by simp only; omega, by simp only; rw [hsn, hins], by simp only; rw [ins_len]; omega⟩, by simp only; omega, ?_⟩
    simp only [hpr, hlen]
    exact (GStep.forget (by repeat' first | exact EnvLe.nil _ | refine EnvLe.cons (AV.le.of_eq rfl) ?_ | refine EnvLe.cons (AV.le.undef _) ?_ | refine EnvLe.cons AV.le.unk ?_) (by repeat' first | exact AH.le.refl _ | assumption | (refine AH.le_put ?_ (by first | assumption | exact (AH.blk_put_ne _ _ (by assumption)).trans (by assumption) | exact AH.none_put (by assumption) | exact AH.none_put (AH.none_put (by assumption)) | (simp only [AH.blk_setTok, AH.tok_put] at *; first | assumption | exact AH.none_put (by assumption)))) | (refine AH.le_setTok ?_ (by first | assumption | exact (AH.blk_put_ne _ _ (by assumption)).trans (by assumption) | exact AH.none_put (by assumption) | exact AH.none_put (AH.none_put (by assumption)) | (simp only [AH.blk_setTok, AH.tok_put] at *; first | assumption | exact AH.none_put (by assumption)))) | (refine AH.le_putM ?_ (by first | assumption | exact (AH.mp_putM_ne _ _ (by assumption)).trans (by assumption) | (simp only [AH.mp_put, AH.mp_setTok] at *; assumption)))))
theorem mprs_dropk (l : List (Int × Int)) (k : Nat) : (prs l).drop (k * 2) = prs (l.drop k) := by
  induction l generalizing k with
  | nil => simp [prs]
  | cons x l ih =>
    cases k with
    | zero => simp
    | succ k =>
      have e : prs (x :: l) = I x.1 :: I x.2 :: prs l := rfl
      rw [e, show (k + 1) * 2 = k * 2 + 1 + 1 by omega, List.drop_succ_cons, List.drop_succ_cons, ih]; rfl
theorem mprs_take (l : List (Int × Int)) (k : Nat) : (prs l).take (k * 2) = prs (l.take k) := by
  induction l generalizing k with
  | nil => simp [prs]
  | cons x l ih =>
    cases k with
    | zero => simp [prs]
    | succ k =>
      have e : prs (x :: l) = I x.1 :: I x.2 :: prs l := rfl
      rw [e, show (k + 1) * 2 = k * 2 + 1 + 1 by omega, List.take_succ_cons, List.take_succ_cons, ih]; rfl
theorem mprs_append (l m : List (Int × Int)) : prs (l ++ m) = prs l ++ prs m := by simp [prs]
theorem insM_len (a : List (Int × Int)) (x : Int × Int) : (insM a x).length ≤ a.length + 1 := by
  unfold insM
  split
  · omega
  · rw [ins_len]; exact Nat.le_refl _
set_option maxHeartbeats 4000000 in
theorem r_ref_marks (n1 : Bool) (a : List (Int × Int)) (u1 : Tail) (n2 : Bool) (b : List (Int × Int)) (u2 : Tail) (ha : a.length ≤ 1000) (hb : b.length ≤ 1000) (h : AH) : RCall Try.prog n_ref_marks [.sl n1 a.length (prs a) u1, .sl n2 b.length (prs b) u2] h (.sl false (mksF a b).length (prs (mksF a b)) .unk) := by
  refine RCall.of hm cF_ref_marks (by simp [g_ref_marks]) fun hw h' hl => ?_
  simp only [F_ref_marks, g_ref_marks, go_sem, reduceIte, Nat.reduceEqDiff, Nat.reduceAdd, Nat.reduceMul, Nat.reduceSub, reduceCtorEq, Nat.reduceLeDiff, Nat.reduceLT, Int.reduceLT, Int.reduceLE, Int.reduceToNat, Int.reduceAdd, Int.reduceSub, Int.reduceNeg, Int.reduceMul, Int.reduceEq, ← Bool.decide_and, ← Bool.decide_or, ↓tq_n, ↓tq_e, ↓tq_r, ↓bq_n, ↓bq_e, ↓bq_r, ↓rq_n, ↓rq_r, ↓rq_e]
  refine ⟨prs_len a, by omega, by omega, TokG.mk fun t ht => ?_⟩
  simp only [F_ref_marks, g_ref_marks, go_sem, reduceIte, Nat.reduceEqDiff, Nat.reduceAdd, Nat.reduceMul, Nat.reduceSub, reduceCtorEq, Nat.reduceLeDiff, Nat.reduceLT, Int.reduceLT, Int.reduceLE, Int.reduceToNat, Int.reduceAdd, Int.reduceSub, Int.reduceNeg, Int.reduceMul, Int.reduceEq, ← Bool.decide_and, ← Bool.decide_or, ↓tq_n, ↓tq_e, ↓tq_r, ↓bq_n, ↓bq_e, ↓bq_r, ↓rq_n, ↓rq_r, ↓rq_e]
  refine awp_loop (α := Nat × List (Int × Int)) (fun p => [(1, .sl n2 b.length (prs b) u2), (5, .sl false p.2.length (prs p.2) .unk), (6, I p.1)]) (fun _ => h') (fun p => p.1 ≤ b.length ∧ mksF a (b.take p.1) = p.2 ∧ p.2.length ≤ a.length + p.1) (fun p => b.length - p.1) (0, a) ⟨Nat.zero_le _, by simp [mksF], by simp⟩ (GStep.forget (by repeat' first | exact EnvLe.nil _ | refine EnvLe.cons (AV.le.of_eq rfl) ?_ | refine EnvLe.cons (AV.le.undef _) ?_ | refine EnvLe.cons AV.le.unk ?_) (by repeat' first | exact AH.le.refl _ | assumption | (refine AH.le_put ?_ (by first | assumption | exact (AH.blk_put_ne _ _ (by assumption)).trans (by assumption) | exact AH.none_put (by assumption) | exact AH.none_put (AH.none_put (by assumption)) | (simp only [AH.blk_setTok, AH.tok_put] at *; first | assumption | exact AH.none_put (by assumption)))) | (refine AH.le_setTok ?_ (by first | assumption | exact (AH.blk_put_ne _ _ (by assumption)).trans (by assumption) | exact AH.none_put (by assumption) | exact AH.none_put (AH.none_put (by assumption)) | (simp only [AH.blk_setTok, AH.tok_put] at *; first | assumption | exact AH.none_put (by assumption)))) | (refine AH.le_putM ?_ (by first | assumption | exact (AH.mp_putM_ne _ _ (by assumption)).trans (by assumption) | (simp only [AH.mp_put, AH.mp_setTok] at *; assumption))))) fun p hp => .of_vg hm ?_
  obtain ⟨i, out⟩ := p
  obtain ⟨p1, p2, p3⟩ := hp
  simp only at p1 p2 p3 ⊢
  by_cases h3 : i < b.length
  case neg =>
    have h3 : i = b.length := by omega
    subst h3
    rw [List.take_length] at p2
    simp only [F_ref_marks, g_ref_marks, go_sem, reduceIte, Nat.reduceEqDiff, Nat.reduceAdd, Nat.reduceMul, Nat.reduceSub, reduceCtorEq, Nat.reduceLeDiff, Nat.reduceLT, Int.reduceLT, Int.reduceLE, Int.reduceToNat, Int.reduceAdd, Int.reduceSub, Int.reduceNeg, Int.reduceMul, Int.reduceEq, ← Bool.decide_and, ← Bool.decide_or, ↓tq_n, ↓tq_e, ↓tq_r, ↓bq_n, ↓bq_e, ↓bq_r, ↓rq_n, ↓rq_r, ↓rq_e]
    exact ret_ok (by rw [p2])
  have hc : (i : Int) < (b.length : Int) := by omega
  have hsn : mksF a (b.take (i + 1)) = insM out (b.getD i (0, 0)) := by rw [take_getD (0, 0) h3]; unfold mksF at *; rw [List.foldl_append, p2]; rfl
  obtain ⟨x, hx⟩ : ∃ x, x = b.getD i (0, 0) := ⟨_, rfl⟩
  have hdb := prs_drop h3
  rw [← hx] at hsn hdb
  have hil := insM_len out x
  have hps := psM_le out x
  simp only [hc, F_ref_marks, g_ref_marks, go_sem, reduceIte, Nat.reduceEqDiff, Nat.reduceAdd, Nat.reduceMul, Nat.reduceSub, reduceCtorEq, Nat.reduceLeDiff, Nat.reduceLT, Int.reduceLT, Int.reduceLE, Int.reduceToNat, Int.reduceAdd, Int.reduceSub, Int.reduceNeg, Int.reduceMul, Int.reduceEq, ← Bool.decide_and, ← Bool.decide_or, ↓tq_n, ↓tq_e, ↓tq_r, ↓bq_n, ↓bq_e, ↓bq_r, ↓rq_n, ↓rq_r, ↓rq_e]
  refine awp_loop (fun k : Nat => [(1, .sl n2 b.length (prs b) u2), (5, .sl false out.length (prs out) .unk), (6, I i), (7, I k)]) (fun _ => h') (fun k => k ≤ psM out x) (fun k => psM out x - k) 0 (Nat.zero_le _) (GStep.forget (by repeat' first | exact EnvLe.nil _ | refine EnvLe.cons (AV.le.of_eq rfl) ?_ | refine EnvLe.cons (AV.le.undef _) ?_ | refine EnvLe.cons AV.le.unk ?_) (by repeat' first | exact AH.le.refl _ | assumption | (refine AH.le_put ?_ (by first | assumption | exact (AH.blk_put_ne _ _ (by assumption)).trans (by assumption) | exact AH.none_put (by assumption) | exact AH.none_put (AH.none_put (by assumption)) | (simp only [AH.blk_setTok, AH.tok_put] at *; first | assumption | exact AH.none_put (by assumption)))) | (refine AH.le_setTok ?_ (by first | assumption | exact (AH.blk_put_ne _ _ (by assumption)).trans (by assumption) | exact AH.none_put (by assumption) | exact AH.none_put (AH.none_put (by assumption)) | (simp only [AH.blk_setTok, AH.tok_put] at *; first | assumption | exact AH.none_put (by assumption)))) | (refine AH.le_putM ?_ (by first | assumption | exact (AH.mp_putM_ne _ _ (by assumption)).trans (by assumption) | (simp only [AH.mp_put, AH.mp_setTok] at *; assumption))))) fun k hk => .of_vg hm ?_
  have hk0 : (0 : Int) ≤ (k : Int) := by omega
  have hi0 : (0 : Int) ≤ (i : Int) := by omega
  have hkl : k ≤ out.length := by omega
  have htk2 : (out.drop k).take (out.length - k) = out.drop k := List.take_of_length_le (by rw [List.length_drop]; exact Nat.le_refl _)
  have hpr : prs (out.take k) ++ (I x.1 :: I x.2 :: prs (out.drop k)) = prs (out.take k ++ [x] ++ out.drop k) := by
    rw [List.append_assoc, mprs_append, mprs_append]; rfl
  have hlen : k + (1 + (out.length - k)) = (out.take k ++ [x] ++ out.drop k).length := by rw [ins_len]; omega
  by_cases h4 : k < out.length
  · have hck : (k : Int) < (out.length : Int) := by omega
    have hke : ¬ (k : Int) = (out.length : Int) := by omega
    have hdo := prs_drop h4
    obtain ⟨y, hy⟩ : ∃ y, y = out.getD k (0, 0) := ⟨_, rfl⟩
    rw [← hy] at hdo
    simp only [hc, hck, decide_eq_true hck, hk0, hi0, hdb, hdo, F_ref_marks, g_ref_marks, go_sem, reduceIte, Nat.reduceEqDiff, Nat.reduceAdd, Nat.reduceMul, Nat.reduceSub, reduceCtorEq, Nat.reduceLeDiff, Nat.reduceLT, Int.reduceLT, Int.reduceLE, Int.reduceToNat, Int.reduceAdd, Int.reduceSub, Int.reduceNeg, Int.reduceMul, Int.reduceEq, ← Bool.decide_and, ← Bool.decide_or, ↓tq_n, ↓tq_e, ↓tq_r, ↓bq_n, ↓bq_e, ↓bq_r, ↓rq_n, ↓rq_r, ↓rq_e]
    refine CallG.mk (r_ref_before y x _) ?_
    by_cases h5 : k < psM out x
    · have h6 := psM_lt h5
      rw [← hy] at h6
      simp only [decide_eq_true h6, F_ref_marks, g_ref_marks, go_sem, reduceIte, Nat.reduceEqDiff, Nat.reduceAdd, Nat.reduceMul, Nat.reduceSub, reduceCtorEq, Nat.reduceLeDiff, Nat.reduceLT, Int.reduceLT, Int.reduceLE, Int.reduceToNat, Int.reduceAdd, Int.reduceSub, Int.reduceNeg, Int.reduceMul, Int.reduceEq, ← Bool.decide_and, ← Bool.decide_or, ↓tq_n, ↓tq_e, ↓tq_r, ↓bq_n, ↓bq_e, ↓bq_r, ↓rq_n, ↓rq_r, ↓rq_e]
      exact ⟨by rw [inR64]; omega, k + 1, by omega, by omega, (GStep.forget (by repeat' first | exact EnvLe.nil _ | refine EnvLe.cons (AV.le.of_eq rfl) ?_ | refine EnvLe.cons (AV.le.undef _) ?_ | refine EnvLe.cons AV.le.unk ?_) (by repeat' first | exact AH.le.refl _ | assumption | (refine AH.le_put ?_ (by first | assumption | exact (AH.blk_put_ne _ _ (by assumption)).trans (by assumption) | exact AH.none_put (by assumption) | exact AH.none_put (AH.none_put (by assumption)) | (simp only [AH.blk_setTok, AH.tok_put] at *; first | assumption | exact AH.none_put (by assumption)))) | (refine AH.le_setTok ?_ (by first | assumption | exact (AH.blk_put_ne _ _ (by assumption)).trans (by assumption) | exact AH.none_put (by assumption) | exact AH.none_put (AH.none_put (by assumption)) | (simp only [AH.blk_setTok, AH.tok_put] at *; first | assumption | exact AH.none_put (by assumption)))) | (refine AH.le_putM ?_ (by first | assumption | exact (AH.mp_putM_ne _ _ (by assumption)).trans (by assumption) | (simp only [AH.mp_put, AH.mp_setTok] at *; assumption)))))⟩
    have h5 : k = psM out x := by omega
    have h6 := psM_at (a := out) (x := x) (by omega)
    rw [← h5, ← hy] at h6
    by_cases h7 : y = x
    · have h8 : y.1 = x.1 ∧ y.2 = x.2 := by subst h7; exact ⟨rfl, rfl⟩
      have hins : insM out x = out := by unfold insM; rw [← h5, if_pos ⟨h4, by rw [← hy]; exact h7⟩]
      simp only [decide_eq_false h6, hc, hck, hke, decide_eq_false hke, hk0, hi0, hdb, hdo, eqCells, decide_eq_true h8.1, decide_eq_true h8.2, F_ref_marks, g_ref_marks, go_sem, reduceIte, Nat.reduceEqDiff, Nat.reduceAdd, Nat.reduceMul, Nat.reduceSub, reduceCtorEq, Nat.reduceLeDiff, Nat.reduceLT, Int.reduceLT, Int.reduceLE, Int.reduceToNat, Int.reduceAdd, Int.reduceSub, Int.reduceNeg, Int.reduceMul, Int.reduceEq, ← Bool.decide_and, ← Bool.decide_or, ↓tq_n, ↓tq_e, ↓tq_r, ↓bq_n, ↓bq_e, ↓bq_r, ↓rq_n, ↓rq_r, ↓rq_e]
      exact ⟨by rw [inR64]; omega, (i + 1, out), ⟨by simp only; omega, by simp only; rw [hsn, hins], by simp only; omega⟩, by simp only; omega, (GStep.forget (by repeat' first | exact EnvLe.nil _ | refine EnvLe.cons (AV.le.of_eq rfl) ?_ | refine EnvLe.cons (AV.le.undef _) ?_ | refine EnvLe.cons AV.le.unk ?_) (by repeat' first | exact AH.le.refl _ | assumption | (refine AH.le_put ?_ (by first | assumption | exact (AH.blk_put_ne _ _ (by assumption)).trans (by assumption) | exact AH.none_put (by assumption) | exact AH.none_put (AH.none_put (by assumption)) | (simp only [AH.blk_setTok, AH.tok_put] at *; first | assumption | exact AH.none_put (by assumption)))) | (refine AH.le_setTok ?_ (by first | assumption | exact (AH.blk_put_ne _ _ (by assumption)).trans (by assumption) | exact AH.none_put (by assumption) | exact AH.none_put (AH.none_put (by assumption)) | (simp only [AH.blk_setTok, AH.tok_put] at *; first | assumption | exact AH.none_put (by assumption)))) | (refine AH.le_putM ?_ (by first | assumption | exact (AH.mp_putM_ne _ _ (by assumption)).trans (by assumption) | (simp only [AH.mp_put, AH.mp_setTok] at *; assumption)))))⟩
    · have h8 : ¬ (y.1 = x.1 ∧ y.2 = x.2) := fun hh => h7 (Prod.ext hh.1 hh.2)
      have hins : insM out x = out.take k ++ [x] ++ out.drop k := by unfold insM; rw [← h5, if_neg fun hh => h7 (by rw [hy]; exact hh.2)]
      simp only [decide_eq_false h6, hc, hck, hke, decide_eq_false hke, hk0, hi0, hdb, hdo, eqCells, h8, decide_eq_false h8, Bool.not_false, F_ref_marks, g_ref_marks, go_sem, reduceIte, Nat.reduceEqDiff, Nat.reduceAdd, Nat.reduceMul, Nat.reduceSub, reduceCtorEq, Nat.reduceLeDiff, Nat.reduceLT, Int.reduceLT, Int.reduceLE, Int.reduceToNat, Int.reduceAdd, Int.reduceSub, Int.reduceNeg, Int.reduceMul, Int.reduceEq, ← Bool.decide_and, ← Bool.decide_or, ↓tq_n, ↓tq_e, ↓tq_r, ↓bq_n, ↓bq_e, ↓bq_r, ↓rq_n, ↓rq_r, ↓rq_e]
      have hfold : I y.1 :: I y.2 :: (prs out).drop (k * 2 + 2) = prs (out.drop k) := by rw [← mprs_dropk, hdo]
      simp only [hfold, mprs_take]
      refine ⟨hkl, Nat.zero_le _, hkl, by rw [prs_len, List.length_take, List.length_drop]; omega, by omega, by omega, TokG.mk fun t1 ht1 => ?_⟩
      simp only [Nat.sub_zero, mprs_take, mprs_dropk, F_ref_marks, g_ref_marks, go_sem, reduceIte, Nat.reduceEqDiff, Nat.reduceAdd, Nat.reduceMul, Nat.reduceSub, reduceCtorEq, Nat.reduceLeDiff, Nat.reduceLT, Int.reduceLT, Int.reduceLE, Int.reduceToNat, Int.reduceAdd, Int.reduceSub, Int.reduceNeg, Int.reduceMul, Int.reduceEq, ← Bool.decide_and, ← Bool.decide_or, ↓tq_n, ↓tq_e, ↓tq_r, ↓bq_n, ↓bq_e, ↓bq_r, ↓rq_n, ↓rq_r, ↓rq_e]
      simp only [htk2, Bool.false_and]
      refine ⟨by rw [prs_len, List.length_take]; omega, by simp only [prs_len, List.length_drop]; omega, by omega, by omega, TokG.mk fun t2 ht2 => ?_⟩
      have ht3 := tok_none ht2
      simp only [F_ref_marks, g_ref_marks, go_sem, reduceIte, Nat.reduceEqDiff, Nat.reduceAdd, Nat.reduceMul, Nat.reduceSub, reduceCtorEq, Nat.reduceLeDiff, Nat.reduceLT, Int.reduceLT, Int.reduceLE, Int.reduceToNat, Int.reduceAdd, Int.reduceSub, Int.reduceNeg, Int.reduceMul, Int.reduceEq, ← Bool.decide_and, ← Bool.decide_or, ↓tq_n, ↓tq_e, ↓tq_r, ↓bq_n, ↓bq_e, ↓bq_r, ↓rq_n, ↓rq_r, ↓rq_e]
      refine ⟨by rw [inR64]; omega, (i + 1, out.take k ++ [x] ++ out.drop k), ⟨by simp only; omega, by simp only; rw [hsn, hins], by simp only; rw [ins_len]; omega⟩, by simp only; omega, ?_⟩
      simp only [hpr, hlen]
      exact (GStep.forget (by repeat' first | exact EnvLe.nil _ | refine EnvLe.cons (AV.le.of_eq rfl) ?_ | refine EnvLe.cons (AV.le.undef _) ?_ | refine EnvLe.cons AV.le.unk ?_) (by repeat' first | exact AH.le.refl _ | assumption | (refine AH.le_put ?_ (by first | assumption | exact (AH.blk_put_ne _ _ (by assumption)).trans (by assumption) | exact AH.none_put (by assumption) | exact AH.none_put (AH.none_put (by assumption)) | (simp only [AH.blk_setTok, AH.tok_put] at *; first | assumption | exact AH.none_put (by assumption)))) | (refine AH.le_setTok ?_ (by first | assumption | exact (AH.blk_put_ne _ _ (by assumption)).trans (by assumption) | exact AH.none_put (by assumption) | exact AH.none_put (AH.none_put (by assumption)) | (simp only [AH.blk_setTok, AH.tok_put] at *; first | assumption | exact AH.none_put (by assumption)))) | (refine AH.le_putM ?_ (by first | assumption | exact (AH.mp_putM_ne _ _ (by assumption)).trans (by assumption) | (simp only [AH.mp_put, AH.mp_setTok] at *; assumption)))))
  · have h4 : k = out.length := by omega
    have hck : ¬ (k : Int) < (out.length : Int) := by omega
    have hke : (k : Int) = (out.length : Int) := by omega
    have hins : insM out x = out.take k ++ [x] ++ out.drop k := by unfold insM; rw [show psM out x = k by omega, if_neg fun hh => by omega]
    simp only [hc, hck, decide_eq_false hck, decide_eq_true hke, hk0, hi0, hdb, Nat.sub_zero, mprs_take, mprs_dropk, F_ref_marks, g_ref_marks, go_sem, reduceIte, Nat.reduceEqDiff, Nat.reduceAdd, Nat.reduceMul, Nat.reduceSub, reduceCtorEq, Nat.reduceLeDiff, Nat.reduceLT, Int.reduceLT, Int.reduceLE, Int.reduceToNat, Int.reduceAdd, Int.reduceSub, Int.reduceNeg, Int.reduceMul, Int.reduceEq, ← Bool.decide_and, ← Bool.decide_or, ↓tq_n, ↓tq_e, ↓tq_r, ↓bq_n, ↓bq_e, ↓bq_r, ↓rq_n, ↓rq_r, ↓rq_e]
    refine ⟨hkl, Nat.zero_le _, hkl, by rw [prs_len, List.length_take, List.length_drop]; omega, by omega, by omega, TokG.mk fun t1 ht1 => ?_⟩
    simp only [Nat.sub_zero, mprs_take, mprs_dropk, F_ref_marks, g_ref_marks, go_sem, reduceIte, Nat.reduceEqDiff, Nat.reduceAdd, Nat.reduceMul, Nat.reduceSub, reduceCtorEq, Nat.reduceLeDiff, Nat.reduceLT, Int.reduceLT, Int.reduceLE, Int.reduceToNat, Int.reduceAdd, Int.reduceSub, Int.reduceNeg, Int.reduceMul, Int.reduceEq, ← Bool.decide_and, ← Bool.decide_or, ↓tq_n, ↓tq_e, ↓tq_r, ↓bq_n, ↓bq_e, ↓bq_r, ↓rq_n, ↓rq_r, ↓rq_e]
    simp only [htk2, Bool.false_and]
    refine ⟨by rw [prs_len, List.length_take]; omega, by simp only [prs_len, List.length_drop]; omega, by omega, by omega, TokG.mk fun t2 ht2 => ?_⟩
    have ht3 := tok_none ht2
    simp only [F_ref_marks, g_ref_marks, go_sem, reduceIte, Nat.reduceEqDiff, Nat.reduceAdd, Nat.reduceMul, Nat.reduceSub, reduceCtorEq, Nat.reduceLeDiff, Nat.reduceLT, Int.reduceLT, Int.reduceLE, Int.reduceToNat, Int.reduceAdd, Int.reduceSub, Int.reduceNeg, Int.reduceMul, Int.reduceEq, ← Bool.decide_and, ← Bool.decide_or, ↓tq_n, ↓tq_e, ↓tq_r, ↓bq_n, ↓bq_e, ↓bq_r, ↓rq_n, ↓rq_r, ↓rq_e]
    refine ⟨by rw [inR64]; omega, (i + 1, out.take k ++ [x] ++ out.drop k), ⟨by simp only; omega, by simp only; rw [hsn, hins], by simp only; rw [ins_len]; omega⟩, by simp only; omega, ?_⟩
    simp only [hpr, hlen]
    exact (GStep.forget (by repeat' first | exact EnvLe.nil _ | refine EnvLe.cons (AV.le.of_eq rfl) ?_ | refine EnvLe.cons (AV.le.undef _) ?_ | refine EnvLe.cons AV.le.unk ?_) (by repeat' first | exact AH.le.refl _ | assumption | (refine AH.le_put ?_ (by first | assumption | exact (AH.blk_put_ne _ _ (by assumption)).trans (by assumption) | exact AH.none_put (by assumption) | exact AH.none_put (AH.none_put (by assumption)) | (simp only [AH.blk_setTok, AH.tok_put] at *; first | assumption | exact AH.none_put (by assumption)))) | (refine AH.le_setTok ?_ (by first | assumption | exact (AH.blk_put_ne _ _ (by assumption)).trans (by assumption) | exact AH.none_put (by assumption) | exact AH.none_put (AH.none_put (by assumption)) | (simp only [AH.blk_setTok, AH.tok_put] at *; first | assumption | exact AH.none_put (by assumption)))) | (refine AH.le_putM ?_ (by first | assumption | exact (AH.mp_putM_ne _ _ (by assumption)).trans (by assumption) | (simp only [AH.mp_put, AH.mp_setTok] at *; assumption)))))
end Go.Proofs.Ytcnmodnafnadlaa
