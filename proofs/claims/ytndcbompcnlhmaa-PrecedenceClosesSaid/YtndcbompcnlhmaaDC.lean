/- Calls of functions of this seat's program: the reference's Closed; the statement PrecedenceCloses as a call. No condition. -/
import Derived.Test.YtndcbompcnlhmaaDR
namespace Go.Proofs.Ytndcbompcnlhmaa
open Go Go.Abs
set_option linter.unusedSimpArgs false
set_option linter.unusedVariables false
set_option maxRecDepth 20000

theorem getD_lt {α : Type} {A : List α} {i : Nat} (d : α) (h : i < A.length) : A.getD i d = A[i] := by simp [List.getD, h]
theorem prs_dropk (l : List (Int × Int)) (k : Nat) : (prs l).drop (k * 2) = prs (l.drop k) := by
  induction l generalizing k with
  | nil => simp [prs]
  | cons x l ih =>
    cases k with
    | zero => simp
    | succ k =>
      have e : prs (x :: l) = I x.1 :: I x.2 :: prs l := rfl
      rw [e, show (k + 1) * 2 = k * 2 + 1 + 1 by omega, List.drop_succ_cons, List.drop_succ_cons, ih]; rfl
theorem lx_tri {p q : Int × Int} (h1 : ¬ Lx q p) (h2 : p ≠ q) : Lx p q := by
  unfold Lx at *
  have h3 : ¬ (p.1 = q.1 ∧ p.2 = q.2) := fun hh => h2 (Prod.ext hh.1 hh.2)
  omega
theorem lsI_tb (r : List Nat) : ∀ i, lsI r i = tbK (fun a k => decide (a ≠ k) && bt r a k) r.length i := by
  have key : ∀ i k, lsK r i k = rwK (fun k => decide (i ≠ k) && bt r i k) i k := by
    intro i k
    induction k with
    | zero => rfl
    | succ k ih =>
      rw [lsK, rwK_succ, ih]
      by_cases h : i ≠ k ∧ bt r i k = true
      · rw [if_pos h, if_pos (by rw [decide_eq_true h.1, h.2]; rfl)]
      · rw [if_neg h, if_neg (fun hh => h ?_), List.append_nil]
        obtain ⟨a, b⟩ := Bool.and_eq_true_iff.1 hh
        exact ⟨of_decide_eq_true a, b⟩
  intro i
  induction i with
  | zero => rfl
  | succ i ih => rw [lsI, tbK_succ, ih, key]
theorem clL_asc {l : List Spm} {c : List (Int × Int)} (h : gaE l c = 0) : (clL l c).Pairwise Lx := by
  have hck := (ga_ok h).2.1
  have h1 : (clI l c).Pairwise Lx := by unfold clI; rw [lsI_tb]; exact tbK_asc _ _ _
  have h2 : ((clI l c).map (idP l)).Nodup := by
    rw [List.nodup_iff_pairwise_ne, List.pairwise_map]
    refine h1.imp_of_mem fun {x y} hx hy hxy he => ?_
    obtain ⟨a, j, a1, a2, rfl⟩ := (mem_clI h).1 hx
    obtain ⟨b, k, b1, b2, rfl⟩ := (mem_clI h).1 hy
    unfold idP idA at he
    simp only [Int.toNat_natCast, Prod.mk.injEq] at he
    have l1 := way_lt h a2
    have l2 := way_lt h b2
    have e1 := id_inj hck l1.1 l2.1 he.1
    have e2 := id_inj hck l1.2 l2.2 he.2
    subst e1; subst e2
    exact Lx.irr hxy
  have h3 : (clL l c).Nodup := by unfold clL; exact (sP_perm cf2 _).nodup_iff.2 h2
  rw [List.pairwise_iff_getElem]
  intro i j hi hj hij
  have h4 := sP_ord ((clI l c).map (idP l)) i j (by omega) hj
  have e1 : (sP cf2 ((clI l c).map (idP l))).getD i (0, 0) = (clL l c)[i] := getD_lt (A := clL l c) (0, 0) hi
  have e2 : (sP cf2 ((clI l c).map (idP l))).getD j (0, 0) = (clL l c)[j] := getD_lt (A := clL l c) (0, 0) hj
  rw [e1, e2] at h4
  exact lx_tri h4 (List.pairwise_iff_getElem.1 (List.nodup_iff_pairwise_ne.1 h3) i j hi hj hij)
/-- A pair put into its place. -/
theorem ins_asc {out : List (Int × Int)} {x : Int × Int} (ho : out.Pairwise Lx) (hx : x ∉ out) {s : Nat} (hs : s ≤ out.length) (h1 : ∀ t, t < s → Lx (out.getD t (0, 0)) x) (h2 : s < out.length → ¬ Lx (out.getD s (0, 0)) x) : (out.take s ++ [x] ++ out.drop s).Pairwise Lx := by
  have hlow : ∀ y ∈ out.take s, Lx y x := fun y hy => by
    obtain ⟨t, ht, e⟩ := List.getElem_of_mem hy
    rw [List.length_take] at ht
    have := h1 t (by omega)
    rw [List.getElem_take] at e
    have e2 : out.getD t (0, 0) = y := by rw [← e]; simp [List.getD, show t < out.length by omega]
    rwa [e2] at this
  have hhigh : ∀ y ∈ out.drop s, Lx x y := fun y hy => by
    have hsl : s < out.length := by
      cases h : out.drop s with
      | nil => rw [h] at hy; cases hy
      | cons a b => have := congrArg List.length h; simp at this; omega
    have h3 := h2 hsl
    have h4 : Lx x (out.getD s (0, 0)) := lx_tri h3 (fun hh => hx (by rw [hh]; exact mem_getD hsl))
    rw [getD_drop out (0, 0) hsl] at hy
    rcases List.mem_cons.1 hy with rfl | hy
    · exact h4
    · have h5 : (out.drop s).Pairwise Lx := ho.sublist (List.drop_sublist s out)
      rw [getD_drop out (0, 0) hsl] at h5
      exact h4.trans ((List.pairwise_cons.1 h5).1 y hy)
  rw [List.append_assoc]
  refine List.pairwise_append.2 ⟨ho.sublist (List.take_sublist s out), List.pairwise_cons.2 ⟨hhigh, ho.sublist (List.drop_sublist s out)⟩, fun a ha b hb => ?_⟩
  rcases List.mem_cons.1 hb with rfl | hb
  · exact hlow a ha
  · exact (hlow a ha).trans (hhigh b hb)
theorem ins_mem {out : List (Int × Int)} {x y : Int × Int} {s : Nat} : y ∈ out.take s ++ [x] ++ out.drop s ↔ y ∈ out ∨ y = x := by
  have h : y ∈ out ↔ y ∈ out.take s ∨ y ∈ out.drop s := by rw [← List.mem_append, List.take_append_drop]
  rw [h, List.mem_append, List.mem_append, List.mem_singleton]
  constructor
  · rintro ((a | a) | a)
    · exact .inl (.inl a)
    · exact .inr a
    · exact .inl (.inr a)
  · rintro ((a | a) | a)
    · exact .inl (.inl a)
    · exact .inr a
    · exact .inl (.inr a)
theorem ins_len {out : List (Int × Int)} {x : Int × Int} {s : Nat} : (out.take s ++ [x] ++ out.drop s).length = out.length + 1 := by
  simp only [List.length_append, List.length_take, List.length_drop, List.length_singleton]
  omega
/-- What lies in the list so far. -/
def OI (l : List Spm) (R : Nat → Nat → Bool) (i k : Nat) (out : List (Int × Int)) : Prop := out.Pairwise Lx ∧ out.length ≤ i * l.length + k ∧ ∀ y, y ∈ out ↔ ∃ a j : Nat, (a < i ∨ a = i ∧ j < k) ∧ a < l.length ∧ j < l.length ∧ a ≠ j ∧ R a j = true ∧ y = ((l.getD a dS).id, (l.getD j dS).id)
theorem oi_skip {l : List Spm} {R : Nat → Nat → Bool} {i k : Nat} {out : List (Int × Int)} (h : OI l R i k out) (hs : i = k ∨ R i k = false) : OI l R i (k + 1) out := by
  refine ⟨h.1, by have := h.2.1; omega, fun y => (h.2.2 y).trans ⟨?_, ?_⟩⟩
  · rintro ⟨a, j, h1, h2⟩; exact ⟨a, j, by omega, h2⟩
  · rintro ⟨a, j, h1, h2, h3, h4, h5, h6⟩
    refine ⟨a, j, ?_, h2, h3, h4, h5, h6⟩
    rcases h1 with h1 | ⟨rfl, h1⟩
    · exact .inl h1
    · rcases Nat.lt_succ_iff_lt_or_eq.1 h1 with h1 | rfl
      · exact .inr ⟨rfl, h1⟩
      · rcases hs with hs | hs
        · exact absurd hs h4
        · rw [hs] at h5; cases h5
theorem oi_new {l : List Spm} (hck : ckE l = 0) {R : Nat → Nat → Bool} {i k : Nat} {out : List (Int × Int)} (h : OI l R i k out) (hi : i < l.length) (hk : k < l.length) : ((l.getD i dS).id, (l.getD k dS).id) ∉ out := fun hm2 => by
  obtain ⟨a, j, h1, h2, h3, h4, h5, h6⟩ := (h.2.2 _).1 hm2
  have e := Prod.mk.inj h6
  have e1 := id_inj hck hi h2 e.1
  have e2 := id_inj hck hk h3 e.2
  omega
theorem oi_ins {l : List Spm} {R : Nat → Nat → Bool} {i k : Nat} {out : List (Int × Int)} (h : OI l R i k out) (hi : i < l.length) (hk : k < l.length) (hne : i ≠ k) (hr : R i k = true) {s : Nat} (hp : (out.take s ++ [((l.getD i dS).id, (l.getD k dS).id)] ++ out.drop s).Pairwise Lx) : OI l R i (k + 1) (out.take s ++ [((l.getD i dS).id, (l.getD k dS).id)] ++ out.drop s) := by
  refine ⟨hp, by rw [ins_len]; have := h.2.1; omega, fun y => ?_⟩
  rw [ins_mem, h.2.2 y]
  constructor
  · rintro (⟨a, j, h1, h2⟩ | rfl)
    · exact ⟨a, j, by omega, h2⟩
    · exact ⟨i, k, .inr ⟨rfl, by omega⟩, hi, hk, hne, hr, rfl⟩
  · rintro ⟨a, j, h1, h2, h3, h4, h5, h6⟩
    rcases h1 with h1 | ⟨rfl, h1⟩
    · exact .inl ⟨a, j, .inl h1, h2, h3, h4, h5, h6⟩
    · rcases Nat.lt_succ_iff_lt_or_eq.1 h1 with h1 | rfl
      · exact .inl ⟨a, j, .inr ⟨rfl, h1⟩, h2, h3, h4, h5, h6⟩
      · exact .inr h6
theorem oi_row {l : List Spm} {R : Nat → Nat → Bool} {i : Nat} {out : List (Int × Int)} (h : OI l R i l.length out) : OI l R (i + 1) 0 out := by
  refine ⟨h.1, by have := h.2.1; rw [Nat.succ_mul]; omega, fun y => (h.2.2 y).trans ⟨?_, ?_⟩⟩
  · rintro ⟨a, j, h1, h2⟩; exact ⟨a, j, by omega, h2⟩
  · rintro ⟨a, j, h1, h2, h3, h4⟩; exact ⟨a, j, by omega, h2, h3, h4⟩
theorem oi_end {l : List Spm} {c : List (Int × Int)} (h : gaE l c = 0) {out : List (Int × Int)} (ho : OI l (rcB l c) l.length 0 out) : out = clL l c := by
  refine pasc_ext ho.1 (clL_asc h) fun y => ?_
  rw [ho.2.2 y]
  obtain ⟨y1, y2⟩ := y
  rw [mem_clL h]
  constructor
  · rintro ⟨a, j, h1, h2, h3, h4, h5, h6⟩
    have e := Prod.mk.inj h6
    exact ⟨a, j, h4, (rcB_iff h h2 h3).1 h5, e.1.symm, e.2.symm⟩
  · rintro ⟨a, j, h1, h2, h3, h4⟩
    have hl := way_lt h h2
    exact ⟨a, j, .inl hl.1, hl.1, hl.2, h1, (rcB_iff h hl.1 hl.2).2 h2, by rw [h3, h4]⟩
set_option maxHeartbeats 8000000 in
theorem r_ref_Closed (n1 : Bool) (l : List Spm) (u1 : Tail) (n2 : Bool) (c : List (Int × Int)) (u2 : Tail) (h : AH) : RCall Try.prog n_ref_Closed [.sl n1 l.length (sms l) u1, .sl n2 c.length (prs c) u2] h (clV l c) := by
  refine RCall.of hm cF_ref_Closed (by simp [g_ref_Closed]) fun hw h' hl => ?_
  simp only [F_ref_Closed, g_ref_Closed, go_sem, reduceIte, Nat.reduceEqDiff, Nat.reduceAdd, Nat.reduceMul, Nat.reduceSub, reduceCtorEq, Nat.reduceLeDiff, Nat.reduceLT, Int.reduceLT, Int.reduceLE, Int.reduceToNat, Int.reduceAdd, Int.reduceSub, Int.reduceNeg, Int.reduceMul, Int.reduceEq, ← Bool.decide_and, ← Bool.decide_or, ↓tq_n, ↓tq_e, ↓tq_r, ↓bq_n, ↓bq_e, ↓bq_r, ↓rq_n, ↓rq_r, ↓rq_e]
  refine CallG.mk (r_ref_Build n1 l u1 n2 c u2 _) ?_
  by_cases c1 : gaE l c = 0
  case neg =>
    rw [blV_no c1]
    simp only [c1, F_ref_Closed, g_ref_Closed, go_sem, reduceIte, Nat.reduceEqDiff, Nat.reduceAdd, Nat.reduceMul, Nat.reduceSub, reduceCtorEq, Nat.reduceLeDiff, Nat.reduceLT, Int.reduceLT, Int.reduceLE, Int.reduceToNat, Int.reduceAdd, Int.reduceSub, Int.reduceNeg, Int.reduceMul, Int.reduceEq, ← Bool.decide_and, ← Bool.decide_or, ↓tq_n, ↓tq_e, ↓tq_r, ↓bq_n, ↓bq_e, ↓bq_r, ↓rq_n, ↓rq_r, ↓rq_e]
    exact ret_ok (by unfold clV; rw [if_neg c1])
  rw [blV_yes c1]
  obtain ⟨hl24, hck, g3, g4, g5, _⟩ := ga_ok c1
  have hcv : clV l c = .tup [gl (prs (clL l c)) (clL l c).length .unk, I 0] := by unfold clV; rw [if_pos c1]
  have hnn : l.length * l.length ≤ 24 * 24 := Nat.mul_le_mul hl24 hl24
  simp only [F_ref_Closed, g_ref_Closed, go_sem, reduceIte, Nat.reduceEqDiff, Nat.reduceAdd, Nat.reduceMul, Nat.reduceSub, reduceCtorEq, Nat.reduceLeDiff, Nat.reduceLT, Int.reduceLT, Int.reduceLE, Int.reduceToNat, Int.reduceAdd, Int.reduceSub, Int.reduceNeg, Int.reduceMul, Int.reduceEq, ← Bool.decide_and, ← Bool.decide_or, ↓tq_n, ↓tq_e, ↓tq_r, ↓bq_n, ↓bq_e, ↓bq_r, ↓rq_n, ↓rq_r, ↓rq_e]
  refine awp_loop (α := Nat × Bool × List (Int × Int)) (fun p => [(0, .sl n1 l.length (sms l) u1), (6, .sl (decide ((arcL (pcs l c)).length = 0)) (arcL (pcs l c)).length (prs (arcL (pcs l c))) .unk), (8, .sl p.2.1 p.2.2.length (prs p.2.2) .unk), (9, I p.1)]) (fun _ => h') (fun p => p.1 ≤ l.length ∧ OI l (rcB l c) p.1 0 p.2.2 ∧ p.2.1 = decide (p.2.2.length = 0)) (fun p => l.length - p.1) (0, true, []) ⟨Nat.zero_le _, ⟨.nil, by simp, fun y => by simp⟩, rfl⟩ (GStep.forget (by repeat' first | exact EnvLe.nil _ | refine EnvLe.cons (AV.le.of_eq rfl) ?_ | refine EnvLe.cons (AV.le.undef _) ?_ | refine EnvLe.cons AV.le.unk ?_) (by repeat' first | exact AH.le.refl _ | assumption | (refine AH.le_put ?_ (by first | assumption | exact (AH.blk_put_ne _ _ (by assumption)).trans (by assumption) | exact AH.none_put (by assumption) | exact AH.none_put (AH.none_put (by assumption)) | (simp only [AH.blk_setTok, AH.tok_put] at *; first | assumption | exact AH.none_put (by assumption)))) | (refine AH.le_setTok ?_ (by first | assumption | exact (AH.blk_put_ne _ _ (by assumption)).trans (by assumption) | exact AH.none_put (by assumption) | exact AH.none_put (AH.none_put (by assumption)) | (simp only [AH.blk_setTok, AH.tok_put] at *; first | assumption | exact AH.none_put (by assumption)))) | (refine AH.le_putM ?_ (by first | assumption | exact (AH.mp_putM_ne _ _ (by assumption)).trans (by assumption) | (simp only [AH.mp_put, AH.mp_setTok] at *; assumption))))) fun p hp => .of_vg hm ?_
  obtain ⟨i, b8, out⟩ := p
  obtain ⟨p1, p2, p3⟩ := hp
  simp only at p1 p2 p3 ⊢
  by_cases h3 : i < l.length
  · have hc : (i : Int) < (l.length : Int) := by omega
    simp only [hc, F_ref_Closed, g_ref_Closed, go_sem, reduceIte, Nat.reduceEqDiff, Nat.reduceAdd, Nat.reduceMul, Nat.reduceSub, reduceCtorEq, Nat.reduceLeDiff, Nat.reduceLT, Int.reduceLT, Int.reduceLE, Int.reduceToNat, Int.reduceAdd, Int.reduceSub, Int.reduceNeg, Int.reduceMul, Int.reduceEq, ← Bool.decide_and, ← Bool.decide_or, ↓tq_n, ↓tq_e, ↓tq_r, ↓bq_n, ↓bq_e, ↓bq_r, ↓rq_n, ↓rq_r, ↓rq_e]
    refine awp_loop (α := Nat × Bool × List (Int × Int)) (fun p => [(0, .sl n1 l.length (sms l) u1), (6, .sl (decide ((arcL (pcs l c)).length = 0)) (arcL (pcs l c)).length (prs (arcL (pcs l c))) .unk), (8, .sl p.2.1 p.2.2.length (prs p.2.2) .unk), (9, I i), (10, I p.1)]) (fun _ => h') (fun p => p.1 ≤ l.length ∧ OI l (rcB l c) i p.1 p.2.2 ∧ p.2.1 = decide (p.2.2.length = 0)) (fun p => l.length - p.1) (0, b8, out) ⟨Nat.zero_le _, p2, p3⟩ (GStep.forget (by repeat' first | exact EnvLe.nil _ | refine EnvLe.cons (AV.le.of_eq rfl) ?_ | refine EnvLe.cons (AV.le.undef _) ?_ | refine EnvLe.cons AV.le.unk ?_) (by repeat' first | exact AH.le.refl _ | assumption | (refine AH.le_put ?_ (by first | assumption | exact (AH.blk_put_ne _ _ (by assumption)).trans (by assumption) | exact AH.none_put (by assumption) | exact AH.none_put (AH.none_put (by assumption)) | (simp only [AH.blk_setTok, AH.tok_put] at *; first | assumption | exact AH.none_put (by assumption)))) | (refine AH.le_setTok ?_ (by first | assumption | exact (AH.blk_put_ne _ _ (by assumption)).trans (by assumption) | exact AH.none_put (by assumption) | exact AH.none_put (AH.none_put (by assumption)) | (simp only [AH.blk_setTok, AH.tok_put] at *; first | assumption | exact AH.none_put (by assumption)))) | (refine AH.le_putM ?_ (by first | assumption | exact (AH.mp_putM_ne _ _ (by assumption)).trans (by assumption) | (simp only [AH.mp_put, AH.mp_setTok] at *; assumption))))) fun p hp => .of_vg hm ?_
    obtain ⟨k, b8, out⟩ := p
    obtain ⟨q1, q2, q3⟩ := hp
    simp only at q1 q2 q3 ⊢
    by_cases h4 : k < l.length
    · have hck' : (k : Int) < (l.length : Int) := by omega
      by_cases d1 : i = k
      · have d1' : (i : Int) = (k : Int) := by omega
        simp only [hck', decide_eq_true d1', F_ref_Closed, g_ref_Closed, go_sem, reduceIte, Nat.reduceEqDiff, Nat.reduceAdd, Nat.reduceMul, Nat.reduceSub, reduceCtorEq, Nat.reduceLeDiff, Nat.reduceLT, Int.reduceLT, Int.reduceLE, Int.reduceToNat, Int.reduceAdd, Int.reduceSub, Int.reduceNeg, Int.reduceMul, Int.reduceEq, ← Bool.decide_and, ← Bool.decide_or, ↓tq_n, ↓tq_e, ↓tq_r, ↓bq_n, ↓bq_e, ↓bq_r, ↓rq_n, ↓rq_r, ↓rq_e]
        exact ⟨by rw [inR64]; omega, (k + 1, b8, out), ⟨by simp only; omega, oi_skip q2 (.inl d1), q3⟩, by simp only; omega, (GStep.forget (by repeat' first | exact EnvLe.nil _ | refine EnvLe.cons (AV.le.of_eq rfl) ?_ | refine EnvLe.cons (AV.le.undef _) ?_ | refine EnvLe.cons AV.le.unk ?_) (by repeat' first | exact AH.le.refl _ | assumption | (refine AH.le_put ?_ (by first | assumption | exact (AH.blk_put_ne _ _ (by assumption)).trans (by assumption) | exact AH.none_put (by assumption) | exact AH.none_put (AH.none_put (by assumption)) | (simp only [AH.blk_setTok, AH.tok_put] at *; first | assumption | exact AH.none_put (by assumption)))) | (refine AH.le_setTok ?_ (by first | assumption | exact (AH.blk_put_ne _ _ (by assumption)).trans (by assumption) | exact AH.none_put (by assumption) | exact AH.none_put (AH.none_put (by assumption)) | (simp only [AH.blk_setTok, AH.tok_put] at *; first | assumption | exact AH.none_put (by assumption)))) | (refine AH.le_putM ?_ (by first | assumption | exact (AH.mp_putM_ne _ _ (by assumption)).trans (by assumption) | (simp only [AH.mp_put, AH.mp_setTok] at *; assumption)))))⟩
      have d1' : ¬ (i : Int) = (k : Int) := by omega
      simp only [hck', decide_eq_false d1', F_ref_Closed, g_ref_Closed, go_sem, reduceIte, Nat.reduceEqDiff, Nat.reduceAdd, Nat.reduceMul, Nat.reduceSub, reduceCtorEq, Nat.reduceLeDiff, Nat.reduceLT, Int.reduceLT, Int.reduceLE, Int.reduceToNat, Int.reduceAdd, Int.reduceSub, Int.reduceNeg, Int.reduceMul, Int.reduceEq, ← Bool.decide_and, ← Bool.decide_or, ↓tq_n, ↓tq_e, ↓tq_r, ↓bq_n, ↓bq_e, ↓bq_r, ↓rq_n, ↓rq_r, ↓rq_e]
      refine CallG.mk (r_ref_Reaches c1 _ .unk i k h3 h4 _) ?_
      cases d2 : rcB l c i k with
      | false =>
        simp only [F_ref_Closed, g_ref_Closed, go_sem, reduceIte, Nat.reduceEqDiff, Nat.reduceAdd, Nat.reduceMul, Nat.reduceSub, reduceCtorEq, Nat.reduceLeDiff, Nat.reduceLT, Int.reduceLT, Int.reduceLE, Int.reduceToNat, Int.reduceAdd, Int.reduceSub, Int.reduceNeg, Int.reduceMul, Int.reduceEq, ← Bool.decide_and, ← Bool.decide_or, ↓tq_n, ↓tq_e, ↓tq_r, ↓bq_n, ↓bq_e, ↓bq_r, ↓rq_n, ↓rq_r, ↓rq_e]
        exact ⟨by rw [inR64]; omega, (k + 1, b8, out), ⟨by simp only; omega, oi_skip q2 (.inr d2), q3⟩, by simp only; omega, (GStep.forget (by repeat' first | exact EnvLe.nil _ | refine EnvLe.cons (AV.le.of_eq rfl) ?_ | refine EnvLe.cons (AV.le.undef _) ?_ | refine EnvLe.cons AV.le.unk ?_) (by repeat' first | exact AH.le.refl _ | assumption | (refine AH.le_put ?_ (by first | assumption | exact (AH.blk_put_ne _ _ (by assumption)).trans (by assumption) | exact AH.none_put (by assumption) | exact AH.none_put (AH.none_put (by assumption)) | (simp only [AH.blk_setTok, AH.tok_put] at *; first | assumption | exact AH.none_put (by assumption)))) | (refine AH.le_setTok ?_ (by first | assumption | exact (AH.blk_put_ne _ _ (by assumption)).trans (by assumption) | exact AH.none_put (by assumption) | exact AH.none_put (AH.none_put (by assumption)) | (simp only [AH.blk_setTok, AH.tok_put] at *; first | assumption | exact AH.none_put (by assumption)))) | (refine AH.le_putM ?_ (by first | assumption | exact (AH.mp_putM_ne _ _ (by assumption)).trans (by assumption) | (simp only [AH.mp_put, AH.mp_setTok] at *; assumption)))))⟩
      | true =>
        have hnew := oi_new hck q2 h3 h4
        have hol : out.length ≤ 1000 := by
          have h1 := q2.2.1
          have h2 : i * l.length ≤ 24 * 24 := Nat.mul_le_mul (by omega) hl24
          omega
        obtain ⟨x, hx⟩ : ∃ x, x = ((l.getD i dS).id, (l.getD k dS).id) := ⟨_, rfl⟩
        have hx1 : (l.getD i dS).id = x.1 := by rw [hx]
        have hx2 : (l.getD k dS).id = x.2 := by rw [hx]
        have hins := fun {s : Nat} => oi_ins (s := s) q2 h3 h4 d1 d2
        rw [← hx] at hnew hins
        simp only [hc, hck', sms_drop h3, sms_drop h4, hx1, hx2, F_ref_Closed, g_ref_Closed, go_sem, reduceIte, Nat.reduceEqDiff, Nat.reduceAdd, Nat.reduceMul, Nat.reduceSub, reduceCtorEq, Nat.reduceLeDiff, Nat.reduceLT, Int.reduceLT, Int.reduceLE, Int.reduceToNat, Int.reduceAdd, Int.reduceSub, Int.reduceNeg, Int.reduceMul, Int.reduceEq, ← Bool.decide_and, ← Bool.decide_or, ↓tq_n, ↓tq_e, ↓tq_r, ↓bq_n, ↓bq_e, ↓bq_r, ↓rq_n, ↓rq_r, ↓rq_e]
        refine awp_loop (fun s : Nat => [(0, .sl n1 l.length (sms l) u1), (6, .sl (decide ((arcL (pcs l c)).length = 0)) (arcL (pcs l c)).length (prs (arcL (pcs l c))) .unk), (8, .sl b8 out.length (prs out) .unk), (9, I i), (10, I k), (11, .sptr [I x.1, I x.2]), (12, I s)]) (fun _ => h') (fun s => s ≤ out.length ∧ ∀ t, t < s → Lx (out.getD t (0, 0)) x) (fun s => out.length - s) 0 ⟨Nat.zero_le _, fun t ht => absurd ht (Nat.not_lt_zero _)⟩ (GStep.forget (by repeat' first | exact EnvLe.nil _ | refine EnvLe.cons (AV.le.of_eq rfl) ?_ | refine EnvLe.cons (AV.le.undef _) ?_ | refine EnvLe.cons AV.le.unk ?_) (by repeat' first | exact AH.le.refl _ | assumption | (refine AH.le_put ?_ (by first | assumption | exact (AH.blk_put_ne _ _ (by assumption)).trans (by assumption) | exact AH.none_put (by assumption) | exact AH.none_put (AH.none_put (by assumption)) | (simp only [AH.blk_setTok, AH.tok_put] at *; first | assumption | exact AH.none_put (by assumption)))) | (refine AH.le_setTok ?_ (by first | assumption | exact (AH.blk_put_ne _ _ (by assumption)).trans (by assumption) | exact AH.none_put (by assumption) | exact AH.none_put (AH.none_put (by assumption)) | (simp only [AH.blk_setTok, AH.tok_put] at *; first | assumption | exact AH.none_put (by assumption)))) | (refine AH.le_putM ?_ (by first | assumption | exact (AH.mp_putM_ne _ _ (by assumption)).trans (by assumption) | (simp only [AH.mp_put, AH.mp_setTok] at *; assumption))))) fun s hs => .of_vg hm ?_
        obtain ⟨s1, s2⟩ := hs
        have hend : ∀ (hE : s < out.length → ¬ Lx (out.getD s (0, 0)) x), OI l (rcB l c) i (k + 1) (out.take s ++ [x] ++ out.drop s) := fun hE => hins (ins_asc q2.1 hnew s1 s2 hE)
        have hs0 : (0 : Int) ≤ (s : Int) := by omega
        have htk : (prs (out.drop s)).take ((out.length - s) * 2) = prs (out.drop s) := List.take_of_length_le (by rw [prs_len, List.length_drop]; exact Nat.le_refl _)
        have htk2 : (out.drop s).take (out.length - s) = out.drop s := List.take_of_length_le (by rw [List.length_drop]; exact Nat.le_refl _)
        have hpr : prs (out.take s) ++ [I x.1, I x.2] ++ prs (out.drop s) = prs (out.take s ++ [x] ++ out.drop s) := by rw [prs_append, prs_snoc1]
        have hlen : s + 1 + (out.length - s) = (out.take s ++ [x] ++ out.drop s).length := by rw [ins_len]; omega
        have hbf : false = decide ((out.take s ++ [x] ++ out.drop s).length = 0) := by rw [ins_len]; simp
        by_cases h5 : s < out.length
        · have hc5 : (s : Int) < (out.length : Int) := by omega
          have hfold : I (out.getD s (0, 0)).1 :: I (out.getD s (0, 0)).2 :: (prs out).drop (s * 2 + 2) = prs (out.drop s) := by rw [← prs_dropk, prs_drop h5]
          by_cases y1 : (out.getD s (0, 0)).1 < x.1
          · simp only [hc5, prs_drop h5, y1, F_ref_Closed, g_ref_Closed, go_sem, reduceIte, Nat.reduceEqDiff, Nat.reduceAdd, Nat.reduceMul, Nat.reduceSub, reduceCtorEq, Nat.reduceLeDiff, Nat.reduceLT, Int.reduceLT, Int.reduceLE, Int.reduceToNat, Int.reduceAdd, Int.reduceSub, Int.reduceNeg, Int.reduceMul, Int.reduceEq, ← Bool.decide_and, ← Bool.decide_or, ↓tq_n, ↓tq_e, ↓tq_r, ↓bq_n, ↓bq_e, ↓bq_r, ↓rq_n, ↓rq_r, ↓rq_e]
            exact ⟨by rw [inR64]; omega, s + 1, ⟨by omega, all_succ (p := fun t => Lx (out.getD t (0, 0)) x) s2 (.inl y1)⟩, by omega, (GStep.forget (by repeat' first | exact EnvLe.nil _ | refine EnvLe.cons (AV.le.of_eq rfl) ?_ | refine EnvLe.cons (AV.le.undef _) ?_ | refine EnvLe.cons AV.le.unk ?_) (by repeat' first | exact AH.le.refl _ | assumption | (refine AH.le_put ?_ (by first | assumption | exact (AH.blk_put_ne _ _ (by assumption)).trans (by assumption) | exact AH.none_put (by assumption) | exact AH.none_put (AH.none_put (by assumption)) | (simp only [AH.blk_setTok, AH.tok_put] at *; first | assumption | exact AH.none_put (by assumption)))) | (refine AH.le_setTok ?_ (by first | assumption | exact (AH.blk_put_ne _ _ (by assumption)).trans (by assumption) | exact AH.none_put (by assumption) | exact AH.none_put (AH.none_put (by assumption)) | (simp only [AH.blk_setTok, AH.tok_put] at *; first | assumption | exact AH.none_put (by assumption)))) | (refine AH.le_putM ?_ (by first | assumption | exact (AH.mp_putM_ne _ _ (by assumption)).trans (by assumption) | (simp only [AH.mp_put, AH.mp_setTok] at *; assumption)))))⟩
          by_cases y2 : (out.getD s (0, 0)).1 = x.1
          · by_cases y3 : (out.getD s (0, 0)).2 < x.2
            · simp only [hc5, prs_drop h5, decide_eq_false y1, decide_eq_true y2, y3, F_ref_Closed, g_ref_Closed, go_sem, reduceIte, Nat.reduceEqDiff, Nat.reduceAdd, Nat.reduceMul, Nat.reduceSub, reduceCtorEq, Nat.reduceLeDiff, Nat.reduceLT, Int.reduceLT, Int.reduceLE, Int.reduceToNat, Int.reduceAdd, Int.reduceSub, Int.reduceNeg, Int.reduceMul, Int.reduceEq, ← Bool.decide_and, ← Bool.decide_or, ↓tq_n, ↓tq_e, ↓tq_r, ↓bq_n, ↓bq_e, ↓bq_r, ↓rq_n, ↓rq_r, ↓rq_e]
              exact ⟨by rw [inR64]; omega, s + 1, ⟨by omega, all_succ (p := fun t => Lx (out.getD t (0, 0)) x) s2 (.inr ⟨y2, y3⟩)⟩, by omega, (GStep.forget (by repeat' first | exact EnvLe.nil _ | refine EnvLe.cons (AV.le.of_eq rfl) ?_ | refine EnvLe.cons (AV.le.undef _) ?_ | refine EnvLe.cons AV.le.unk ?_) (by repeat' first | exact AH.le.refl _ | assumption | (refine AH.le_put ?_ (by first | assumption | exact (AH.blk_put_ne _ _ (by assumption)).trans (by assumption) | exact AH.none_put (by assumption) | exact AH.none_put (AH.none_put (by assumption)) | (simp only [AH.blk_setTok, AH.tok_put] at *; first | assumption | exact AH.none_put (by assumption)))) | (refine AH.le_setTok ?_ (by first | assumption | exact (AH.blk_put_ne _ _ (by assumption)).trans (by assumption) | exact AH.none_put (by assumption) | exact AH.none_put (AH.none_put (by assumption)) | (simp only [AH.blk_setTok, AH.tok_put] at *; first | assumption | exact AH.none_put (by assumption)))) | (refine AH.le_putM ?_ (by first | assumption | exact (AH.mp_putM_ne _ _ (by assumption)).trans (by assumption) | (simp only [AH.mp_put, AH.mp_setTok] at *; assumption)))))⟩
            · have hE := hend fun _ => by unfold Lx; omega
              simp only [hc5, prs_drop h5, decide_eq_false y1, decide_eq_true y2, y3, hs0, Nat.sub_zero, prs_take, prs_dropk, F_ref_Closed, g_ref_Closed, go_sem, reduceIte, Nat.reduceEqDiff, Nat.reduceAdd, Nat.reduceMul, Nat.reduceSub, reduceCtorEq, Nat.reduceLeDiff, Nat.reduceLT, Int.reduceLT, Int.reduceLE, Int.reduceToNat, Int.reduceAdd, Int.reduceSub, Int.reduceNeg, Int.reduceMul, Int.reduceEq, ← Bool.decide_and, ← Bool.decide_or, ↓tq_n, ↓tq_e, ↓tq_r, ↓bq_n, ↓bq_e, ↓bq_r, ↓rq_n, ↓rq_r, ↓rq_e]
              refine ⟨s1, Nat.zero_le _, s1, by rw [prs_len, List.length_take]; omega, by omega, by omega, TokG.mk fun t ht => ?_⟩
              simp only [hs0, Nat.sub_zero, prs_take, prs_dropk, F_ref_Closed, g_ref_Closed, go_sem, reduceIte, Nat.reduceEqDiff, Nat.reduceAdd, Nat.reduceMul, Nat.reduceSub, reduceCtorEq, Nat.reduceLeDiff, Nat.reduceLT, Int.reduceLT, Int.reduceLE, Int.reduceToNat, Int.reduceAdd, Int.reduceSub, Int.reduceNeg, Int.reduceMul, Int.reduceEq, ← Bool.decide_and, ← Bool.decide_or, ↓tq_n, ↓tq_e, ↓tq_r, ↓bq_n, ↓bq_e, ↓bq_r, ↓rq_n, ↓rq_r, ↓rq_e]
              simp only [hfold, htk, htk2, Bool.false_and]
              refine ⟨by rw [prs_len, List.length_take]; omega, by omega, by omega, by rw [List.length_append, prs_len, List.length_take]; simp only [List.length_cons, List.length_nil]; omega, by rw [prs_len, List.length_drop], by omega, by omega, by rw [inR64]; omega, (k + 1, false, out.take s ++ [x] ++ out.drop s), ⟨by simp only; omega, hE, hbf⟩, by simp only; omega, ?_⟩
              simp only [hpr, hlen]
              exact (GStep.forget (by repeat' first | exact EnvLe.nil _ | refine EnvLe.cons (AV.le.of_eq rfl) ?_ | refine EnvLe.cons (AV.le.undef _) ?_ | refine EnvLe.cons AV.le.unk ?_) (by repeat' first | exact AH.le.refl _ | assumption | (refine AH.le_put ?_ (by first | assumption | exact (AH.blk_put_ne _ _ (by assumption)).trans (by assumption) | exact AH.none_put (by assumption) | exact AH.none_put (AH.none_put (by assumption)) | (simp only [AH.blk_setTok, AH.tok_put] at *; first | assumption | exact AH.none_put (by assumption)))) | (refine AH.le_setTok ?_ (by first | assumption | exact (AH.blk_put_ne _ _ (by assumption)).trans (by assumption) | exact AH.none_put (by assumption) | exact AH.none_put (AH.none_put (by assumption)) | (simp only [AH.blk_setTok, AH.tok_put] at *; first | assumption | exact AH.none_put (by assumption)))) | (refine AH.le_putM ?_ (by first | assumption | exact (AH.mp_putM_ne _ _ (by assumption)).trans (by assumption) | (simp only [AH.mp_put, AH.mp_setTok] at *; assumption)))))
          · have hE := hend fun _ => by unfold Lx; omega
            simp only [hc5, prs_drop h5, decide_eq_false y1, decide_eq_false y2, hs0, Nat.sub_zero, prs_take, prs_dropk, F_ref_Closed, g_ref_Closed, go_sem, reduceIte, Nat.reduceEqDiff, Nat.reduceAdd, Nat.reduceMul, Nat.reduceSub, reduceCtorEq, Nat.reduceLeDiff, Nat.reduceLT, Int.reduceLT, Int.reduceLE, Int.reduceToNat, Int.reduceAdd, Int.reduceSub, Int.reduceNeg, Int.reduceMul, Int.reduceEq, ← Bool.decide_and, ← Bool.decide_or, ↓tq_n, ↓tq_e, ↓tq_r, ↓bq_n, ↓bq_e, ↓bq_r, ↓rq_n, ↓rq_r, ↓rq_e]
            refine ⟨s1, Nat.zero_le _, s1, by rw [prs_len, List.length_take]; omega, by omega, by omega, TokG.mk fun t ht => ?_⟩
            simp only [hs0, Nat.sub_zero, prs_take, prs_dropk, F_ref_Closed, g_ref_Closed, go_sem, reduceIte, Nat.reduceEqDiff, Nat.reduceAdd, Nat.reduceMul, Nat.reduceSub, reduceCtorEq, Nat.reduceLeDiff, Nat.reduceLT, Int.reduceLT, Int.reduceLE, Int.reduceToNat, Int.reduceAdd, Int.reduceSub, Int.reduceNeg, Int.reduceMul, Int.reduceEq, ← Bool.decide_and, ← Bool.decide_or, ↓tq_n, ↓tq_e, ↓tq_r, ↓bq_n, ↓bq_e, ↓bq_r, ↓rq_n, ↓rq_r, ↓rq_e]
            simp only [hfold, htk, htk2, Bool.false_and]
            refine ⟨by rw [prs_len, List.length_take]; omega, by omega, by omega, by rw [List.length_append, prs_len, List.length_take]; simp only [List.length_cons, List.length_nil]; omega, by rw [prs_len, List.length_drop], by omega, by omega, by rw [inR64]; omega, (k + 1, false, out.take s ++ [x] ++ out.drop s), ⟨by simp only; omega, hE, hbf⟩, by simp only; omega, ?_⟩
            simp only [hpr, hlen]
            exact (GStep.forget (by repeat' first | exact EnvLe.nil _ | refine EnvLe.cons (AV.le.of_eq rfl) ?_ | refine EnvLe.cons (AV.le.undef _) ?_ | refine EnvLe.cons AV.le.unk ?_) (by repeat' first | exact AH.le.refl _ | assumption | (refine AH.le_put ?_ (by first | assumption | exact (AH.blk_put_ne _ _ (by assumption)).trans (by assumption) | exact AH.none_put (by assumption) | exact AH.none_put (AH.none_put (by assumption)) | (simp only [AH.blk_setTok, AH.tok_put] at *; first | assumption | exact AH.none_put (by assumption)))) | (refine AH.le_setTok ?_ (by first | assumption | exact (AH.blk_put_ne _ _ (by assumption)).trans (by assumption) | exact AH.none_put (by assumption) | exact AH.none_put (AH.none_put (by assumption)) | (simp only [AH.blk_setTok, AH.tok_put] at *; first | assumption | exact AH.none_put (by assumption)))) | (refine AH.le_putM ?_ (by first | assumption | exact (AH.mp_putM_ne _ _ (by assumption)).trans (by assumption) | (simp only [AH.mp_put, AH.mp_setTok] at *; assumption)))))
        · have hc5 : ¬ (s : Int) < (out.length : Int) := by omega
          have hE := hend fun hh => absurd hh h5
          have hfold : True := trivial
          simp only [hc5, hs0, Nat.sub_zero, prs_take, prs_dropk, F_ref_Closed, g_ref_Closed, go_sem, reduceIte, Nat.reduceEqDiff, Nat.reduceAdd, Nat.reduceMul, Nat.reduceSub, reduceCtorEq, Nat.reduceLeDiff, Nat.reduceLT, Int.reduceLT, Int.reduceLE, Int.reduceToNat, Int.reduceAdd, Int.reduceSub, Int.reduceNeg, Int.reduceMul, Int.reduceEq, ← Bool.decide_and, ← Bool.decide_or, ↓tq_n, ↓tq_e, ↓tq_r, ↓bq_n, ↓bq_e, ↓bq_r, ↓rq_n, ↓rq_r, ↓rq_e]
          refine ⟨s1, Nat.zero_le _, s1, by rw [prs_len, List.length_take]; omega, by omega, by omega, TokG.mk fun t ht => ?_⟩
          simp only [hs0, Nat.sub_zero, prs_take, prs_dropk, F_ref_Closed, g_ref_Closed, go_sem, reduceIte, Nat.reduceEqDiff, Nat.reduceAdd, Nat.reduceMul, Nat.reduceSub, reduceCtorEq, Nat.reduceLeDiff, Nat.reduceLT, Int.reduceLT, Int.reduceLE, Int.reduceToNat, Int.reduceAdd, Int.reduceSub, Int.reduceNeg, Int.reduceMul, Int.reduceEq, ← Bool.decide_and, ← Bool.decide_or, ↓tq_n, ↓tq_e, ↓tq_r, ↓bq_n, ↓bq_e, ↓bq_r, ↓rq_n, ↓rq_r, ↓rq_e]
          simp only [hfold, htk, htk2, Bool.false_and]
          refine ⟨by rw [prs_len, List.length_take]; omega, by omega, by omega, by rw [List.length_append, prs_len, List.length_take]; simp only [List.length_cons, List.length_nil]; omega, by rw [prs_len, List.length_drop], by omega, by omega, by rw [inR64]; omega, (k + 1, false, out.take s ++ [x] ++ out.drop s), ⟨by simp only; omega, hE, hbf⟩, by simp only; omega, ?_⟩
          simp only [hpr, hlen]
          exact (GStep.forget (by repeat' first | exact EnvLe.nil _ | refine EnvLe.cons (AV.le.of_eq rfl) ?_ | refine EnvLe.cons (AV.le.undef _) ?_ | refine EnvLe.cons AV.le.unk ?_) (by repeat' first | exact AH.le.refl _ | assumption | (refine AH.le_put ?_ (by first | assumption | exact (AH.blk_put_ne _ _ (by assumption)).trans (by assumption) | exact AH.none_put (by assumption) | exact AH.none_put (AH.none_put (by assumption)) | (simp only [AH.blk_setTok, AH.tok_put] at *; first | assumption | exact AH.none_put (by assumption)))) | (refine AH.le_setTok ?_ (by first | assumption | exact (AH.blk_put_ne _ _ (by assumption)).trans (by assumption) | exact AH.none_put (by assumption) | exact AH.none_put (AH.none_put (by assumption)) | (simp only [AH.blk_setTok, AH.tok_put] at *; first | assumption | exact AH.none_put (by assumption)))) | (refine AH.le_putM ?_ (by first | assumption | exact (AH.mp_putM_ne _ _ (by assumption)).trans (by assumption) | (simp only [AH.mp_put, AH.mp_setTok] at *; assumption)))))
    have h4 : k = l.length := by omega
    subst h4
    simp only [F_ref_Closed, g_ref_Closed, go_sem, reduceIte, Nat.reduceEqDiff, Nat.reduceAdd, Nat.reduceMul, Nat.reduceSub, reduceCtorEq, Nat.reduceLeDiff, Nat.reduceLT, Int.reduceLT, Int.reduceLE, Int.reduceToNat, Int.reduceAdd, Int.reduceSub, Int.reduceNeg, Int.reduceMul, Int.reduceEq, ← Bool.decide_and, ← Bool.decide_or, ↓tq_n, ↓tq_e, ↓tq_r, ↓bq_n, ↓bq_e, ↓bq_r, ↓rq_n, ↓rq_r, ↓rq_e]
    exact ⟨by rw [inR64]; omega, (i + 1, b8, out), ⟨by simp only; omega, oi_row q2, q3⟩, by simp only; omega, (GStep.forget (by repeat' first | exact EnvLe.nil _ | refine EnvLe.cons (AV.le.of_eq rfl) ?_ | refine EnvLe.cons (AV.le.undef _) ?_ | refine EnvLe.cons AV.le.unk ?_) (by repeat' first | exact AH.le.refl _ | assumption | (refine AH.le_put ?_ (by first | assumption | exact (AH.blk_put_ne _ _ (by assumption)).trans (by assumption) | exact AH.none_put (by assumption) | exact AH.none_put (AH.none_put (by assumption)) | (simp only [AH.blk_setTok, AH.tok_put] at *; first | assumption | exact AH.none_put (by assumption)))) | (refine AH.le_setTok ?_ (by first | assumption | exact (AH.blk_put_ne _ _ (by assumption)).trans (by assumption) | exact AH.none_put (by assumption) | exact AH.none_put (AH.none_put (by assumption)) | (simp only [AH.blk_setTok, AH.tok_put] at *; first | assumption | exact AH.none_put (by assumption)))) | (refine AH.le_putM ?_ (by first | assumption | exact (AH.mp_putM_ne _ _ (by assumption)).trans (by assumption) | (simp only [AH.mp_put, AH.mp_setTok] at *; assumption)))))⟩
  have h3 : i = l.length := by omega
  subst h3
  have hout := oi_end c1 p2
  rw [hcv, ← hout, p3]
  simp only [F_ref_Closed, g_ref_Closed, go_sem, reduceIte, Nat.reduceEqDiff, Nat.reduceAdd, Nat.reduceMul, Nat.reduceSub, reduceCtorEq, Nat.reduceLeDiff, Nat.reduceLT, Int.reduceLT, Int.reduceLE, Int.reduceToNat, Int.reduceAdd, Int.reduceSub, Int.reduceNeg, Int.reduceMul, Int.reduceEq, ← Bool.decide_and, ← Bool.decide_or, ↓tq_n, ↓tq_e, ↓tq_r, ↓bq_n, ↓bq_e, ↓bq_r, ↓rq_n, ↓rq_r, ↓rq_e]
  exact ret_ok rfl
end Go.Proofs.Ytndcbompcnlhmaa
namespace Go.Proofs.Ytndcbompcnlhmaa
open Go Go.Abs
set_option linter.unusedSimpArgs false
set_option linter.unusedVariables false
set_option maxRecDepth 20000

theorem clV_tup (l : List Spm) (c : List (Int × Int)) : ∃ A : List (Int × Int), ∃ nl tl, clV l c = .tup [.sl nl A.length (prs A) tl, I (gaE l c)] := by
  by_cases h : gaE l c = 0
  · exact ⟨clL l c, decide ((clL l c).length = 0), .unk, by unfold clV; rw [if_pos h, h]; rfl⟩
  · exact ⟨[], true, .full, by unfold clV; rw [if_neg h]; rfl⟩
set_option maxHeartbeats 2000000 in
theorem r_law_PrecedenceCloses (n1 : Bool) (l : List Spm) (u1 : Tail) (n2 : Bool) (c : List (Int × Int)) (u2 : Tail) (x : Int × Int) (h : AH) : RCall Try.prog n_law_PrecedenceCloses [.sl n1 l.length (sms l) u1, .sl n2 c.length (prs c) u2, .st [I x.1, I x.2]] h (.bool true) := by
  refine RCall.of hm cF_law_PrecedenceCloses (by simp [g_law_PrecedenceCloses]) fun hw h' hl => ?_
  simp only [F_law_PrecedenceCloses, g_law_PrecedenceCloses, go_sem, reduceIte, Nat.reduceEqDiff, Nat.reduceAdd, Nat.reduceMul, Nat.reduceSub, reduceCtorEq, Nat.reduceLeDiff, Nat.reduceLT, Int.reduceLT, Int.reduceLE, Int.reduceToNat, Int.reduceAdd, Int.reduceSub, Int.reduceNeg, Int.reduceMul, Int.reduceEq, ← Bool.decide_and, ← Bool.decide_or, ↓tq_n, ↓tq_e, ↓tq_r, ↓bq_n, ↓bq_e, ↓bq_r, ↓rq_n, ↓rq_r, ↓rq_e]
  refine CallG.mk (r_law_awake _) ?_
  simp only [F_law_PrecedenceCloses, g_law_PrecedenceCloses, go_sem, reduceIte, Nat.reduceEqDiff, Nat.reduceAdd, Nat.reduceMul, Nat.reduceSub, reduceCtorEq, Nat.reduceLeDiff, Nat.reduceLT, Int.reduceLT, Int.reduceLE, Int.reduceToNat, Int.reduceAdd, Int.reduceSub, Int.reduceNeg, Int.reduceMul, Int.reduceEq, ← Bool.decide_and, ← Bool.decide_or, ↓tq_n, ↓tq_e, ↓tq_r, ↓bq_n, ↓bq_e, ↓bq_r, ↓rq_n, ↓rq_r, ↓rq_e]
  refine CallG.mk (r_law_few n1 l u1 n2 c u2 _) ?_
  cases hf : fwC l c with
  | false =>
    simp only [F_law_PrecedenceCloses, g_law_PrecedenceCloses, go_sem, reduceIte, Nat.reduceEqDiff, Nat.reduceAdd, Nat.reduceMul, Nat.reduceSub, reduceCtorEq, Nat.reduceLeDiff, Nat.reduceLT, Int.reduceLT, Int.reduceLE, Int.reduceToNat, Int.reduceAdd, Int.reduceSub, Int.reduceNeg, Int.reduceMul, Int.reduceEq, ← Bool.decide_and, ← Bool.decide_or, ↓tq_n, ↓tq_e, ↓tq_r, ↓bq_n, ↓bq_e, ↓bq_r, ↓rq_n, ↓rq_r, ↓rq_e]
    refine CallG.mk (r_law_awake _) ?_
    simp only [F_law_PrecedenceCloses, g_law_PrecedenceCloses, go_sem, reduceIte, Nat.reduceEqDiff, Nat.reduceAdd, Nat.reduceMul, Nat.reduceSub, reduceCtorEq, Nat.reduceLeDiff, Nat.reduceLT, Int.reduceLT, Int.reduceLE, Int.reduceToNat, Int.reduceAdd, Int.reduceSub, Int.reduceNeg, Int.reduceMul, Int.reduceEq, ← Bool.decide_and, ← Bool.decide_or, ↓tq_n, ↓tq_e, ↓tq_r, ↓bq_n, ↓bq_e, ↓bq_r, ↓rq_n, ↓rq_r, ↓rq_e]
    exact ret_ok rfl
  | true =>
    have hb := few_bd hf
    obtain ⟨A, nl, tl, e1⟩ := clV_tup l c
    have r1 := r_precedence_Closed n1 l u1 n2 c u2
    have r2 := r_ref_Closed n1 l u1 n2 c u2
    have r3 := r_precedence_Add n1 l u1 n2 c u2 x (by omega)
    have r4 := r_ref_Add n1 l u1 n2 c u2 x (by omega)
    rw [e1] at r1 r2
    unfold csV at r3 r4
    simp only [F_law_PrecedenceCloses, g_law_PrecedenceCloses, go_sem, reduceIte, Nat.reduceEqDiff, Nat.reduceAdd, Nat.reduceMul, Nat.reduceSub, reduceCtorEq, Nat.reduceLeDiff, Nat.reduceLT, Int.reduceLT, Int.reduceLE, Int.reduceToNat, Int.reduceAdd, Int.reduceSub, Int.reduceNeg, Int.reduceMul, Int.reduceEq, ← Bool.decide_and, ← Bool.decide_or, ↓tq_n, ↓tq_e, ↓tq_r, ↓bq_n, ↓bq_e, ↓bq_r, ↓rq_n, ↓rq_r, ↓rq_e]
    refine CallG.mk (r1 _) ?_
    simp only [F_law_PrecedenceCloses, g_law_PrecedenceCloses, go_sem, reduceIte, Nat.reduceEqDiff, Nat.reduceAdd, Nat.reduceMul, Nat.reduceSub, reduceCtorEq, Nat.reduceLeDiff, Nat.reduceLT, Int.reduceLT, Int.reduceLE, Int.reduceToNat, Int.reduceAdd, Int.reduceSub, Int.reduceNeg, Int.reduceMul, Int.reduceEq, ← Bool.decide_and, ← Bool.decide_or, ↓tq_n, ↓tq_e, ↓tq_r, ↓bq_n, ↓bq_e, ↓bq_r, ↓rq_n, ↓rq_r, ↓rq_e]
    refine CallG.mk (r3 _) ?_
    simp only [F_law_PrecedenceCloses, g_law_PrecedenceCloses, go_sem, reduceIte, Nat.reduceEqDiff, Nat.reduceAdd, Nat.reduceMul, Nat.reduceSub, reduceCtorEq, Nat.reduceLeDiff, Nat.reduceLT, Int.reduceLT, Int.reduceLE, Int.reduceToNat, Int.reduceAdd, Int.reduceSub, Int.reduceNeg, Int.reduceMul, Int.reduceEq, ← Bool.decide_and, ← Bool.decide_or, ↓tq_n, ↓tq_e, ↓tq_r, ↓bq_n, ↓bq_e, ↓bq_r, ↓rq_n, ↓rq_r, ↓rq_e]
    refine CallG.mk (r2 _) ?_
    simp only [F_law_PrecedenceCloses, g_law_PrecedenceCloses, go_sem, reduceIte, Nat.reduceEqDiff, Nat.reduceAdd, Nat.reduceMul, Nat.reduceSub, reduceCtorEq, Nat.reduceLeDiff, Nat.reduceLT, Int.reduceLT, Int.reduceLE, Int.reduceToNat, Int.reduceAdd, Int.reduceSub, Int.reduceNeg, Int.reduceMul, Int.reduceEq, ← Bool.decide_and, ← Bool.decide_or, ↓tq_n, ↓tq_e, ↓tq_r, ↓bq_n, ↓bq_e, ↓bq_r, ↓rq_n, ↓rq_r, ↓rq_e]
    refine CallG.mk (r4 _) ?_
    simp only [F_law_PrecedenceCloses, g_law_PrecedenceCloses, go_sem, reduceIte, Nat.reduceEqDiff, Nat.reduceAdd, Nat.reduceMul, Nat.reduceSub, reduceCtorEq, Nat.reduceLeDiff, Nat.reduceLT, Int.reduceLT, Int.reduceLE, Int.reduceToNat, Int.reduceAdd, Int.reduceSub, Int.reduceNeg, Int.reduceMul, Int.reduceEq, ← Bool.decide_and, ← Bool.decide_or, ↓tq_n, ↓tq_e, ↓tq_r, ↓bq_n, ↓bq_e, ↓bq_r, ↓rq_n, ↓rq_r, ↓rq_e]
    refine CallG.mk (r_base_Pairs nl A tl nl A tl _) ?_
    rw [decide_eq_true rfl]
    simp only [F_law_PrecedenceCloses, g_law_PrecedenceCloses, go_sem, reduceIte, Nat.reduceEqDiff, Nat.reduceAdd, Nat.reduceMul, Nat.reduceSub, reduceCtorEq, Nat.reduceLeDiff, Nat.reduceLT, Int.reduceLT, Int.reduceLE, Int.reduceToNat, Int.reduceAdd, Int.reduceSub, Int.reduceNeg, Int.reduceMul, Int.reduceEq, ← Bool.decide_and, ← Bool.decide_or, ↓tq_n, ↓tq_e, ↓tq_r, ↓bq_n, ↓bq_e, ↓bq_r, ↓rq_n, ↓rq_r, ↓rq_e]
    exact ret_ok (by simp)
end Go.Proofs.Ytndcbompcnlhmaa
