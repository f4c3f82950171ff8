/- Calls of functions of this seat's program: the law BurialIntervals. No condition. -/
import Derived.Test.YtnekkkjedmlloaaR3
import Derived.Test.YtnekkkjedmlloaaH11
namespace Go.Proofs.Ytnekkkjedmlloaa
open Go Go.Abs
set_option linter.unusedSimpArgs false
set_option linter.unusedVariables false
set_option maxRecDepth 20000

/-- One arc stands before another one. -/
def Lx (p q : Int × Int) : Prop := p.1 < q.1 ∨ p.1 = q.1 ∧ p.2 < q.2
theorem arcK_pw (l : List Hd) (i : Nat) : ∀ k, (arcK l i k).Pairwise Lx := by
  intro k
  induction k with
  | zero => exact .nil
  | succ k ih =>
    unfold arcK
    split
    · refine List.pairwise_append.2 ⟨ih, List.pairwise_singleton _ _, fun p hp q hq => ?_⟩
      obtain ⟨j, a1, rfl, _⟩ := mem_arcK.1 hp
      rw [List.mem_singleton] at hq
      subst hq
      exact .inr ⟨rfl, by simp only; omega⟩
    · exact ih
theorem arcI_pw (l : List Hd) : ∀ n, (arcI l n).Pairwise Lx := by
  intro n
  induction n with
  | zero => exact .nil
  | succ n ih =>
    unfold arcI
    refine List.pairwise_append.2 ⟨ih, arcK_pw l n _, fun p hp q hq => ?_⟩
    obtain ⟨i, j, a1, a2, rfl, _⟩ := mem_arcI.1 hp
    obtain ⟨k, b1, rfl, _⟩ := mem_arcK.1 hq
    exact .inl (by simp only; omega)
theorem pw_getD {a : List (Int × Int)} (h : a.Pairwise Lx) {i : Nat} (h0 : 0 < i) (hi : i < a.length) : Lx (a.getD (i - 1) (0, 0)) (a.getD i (0, 0)) := by
  have := List.pairwise_iff_getElem.1 h (i - 1) i (by omega) hi (by omega)
  simp only [List.getD_eq_getElem?_getD, List.getElem?_eq_getElem hi, List.getElem?_eq_getElem (show i - 1 < a.length by omega), Option.getD_some]
  exact this
/-- Hoards whose years go forward. -/
def Fw (l : List Hd) : Prop := ∀ i, i < l.length → (l.getD i dH).cl.1 ≤ (l.getD i dH).cl.2
theorem arc_dg {l : List Hd} (l8 : l.length ≤ 8) (hf : Fw l) : Dg l.length (arcI l l.length) := by
  refine ⟨by omega, by omega, fun i hi => ⟨?_, fun h0 => pw_getD (arcI_pw l _) h0 hi⟩⟩
  obtain ⟨j, k, a1, a2, e, a3⟩ := mem_arcI.1 (mem_getD (d := (0, 0)) hi)
  rw [e]
  have := hf j a1
  refine ⟨by simp only; omega, by simp only; omega, by simp only; omega, by simp only; omega, fun hh => ?_⟩
  simp only at hh
  have : j = k := by omega
  subst this
  omega
theorem arc_bt {l : List Hd} (l8 : l.length ≤ 8) (hf : Fw l) (i j : Nat) : bt (nxt l.length (arcI l l.length) (arcI l l.length).length) i j = true ↔ i < l.length ∧ j < l.length ∧ (l.getD i dH).cl.2 < (l.getD j dH).cl.1 := by
  rw [nxt_bt (fun q hq => (arc_dg l8 hf).arc q hq) _ (Nat.le_refl _)]
  constructor
  · rintro ⟨q, h1, h2⟩
    obtain ⟨a, b, c1, c2, e, c3⟩ := mem_arcI.1 (mem_getD (d := (0, 0)) h1)
    rw [h2] at e
    have e1 : i = a := by have := congrArg Prod.fst e; simp only at this; omega
    have e2 : j = b := by have := congrArg Prod.snd e; simp only at this; omega
    subst e1; subst e2
    exact ⟨c1, c2, c3⟩
  · rintro ⟨h1, h2, h3⟩
    exact mem_getD_iff.1 (mem_arcI.2 ⟨i, j, h1, h2, rfl, h3⟩)
theorem arc_pos {l : List Hd} (l8 : l.length ≤ 8) (hf : Fw l) : posR l.length (arcI l l.length) = nxt l.length (arcI l l.length) (arcI l l.length).length := by
  unfold posR
  refine wr_trans (fun m i j h1 h2 => ?_) _
  rw [arc_bt l8 hf] at h1 h2 ⊢
  have := hf m h1.2.1
  exact ⟨h1.1, h2.2.1, by omega⟩
theorem acI_true {r : List Nat} : ∀ {n : Nat}, (∀ i, i < n → bt r i i = false) → acI r n = true := by
  intro n
  induction n with
  | zero => intro _; rfl
  | succ n ih => intro h; rw [acI, ih fun i hi => h i (by omega), h n (by omega)]; rfl
theorem arc_acyclic {l : List Hd} (l8 : l.length ≤ 8) (hf : Fw l) : acI (posR l.length (arcI l l.length)) l.length = true := by
  rw [arc_pos l8 hf]
  refine acI_true fun i hi => Bool.eq_false_iff.2 fun hh => ?_
  rw [arc_bt l8 hf] at hh
  have := hf i hi
  omega
theorem arc_lsK {l : List Hd} (l8 : l.length ≤ 8) (hf : Fw l) {i : Nat} (hi : i < l.length) : ∀ k, k ≤ l.length → lsK (posR l.length (arcI l l.length)) i k = arcK l i k := by
  intro k
  induction k with
  | zero => intro _; rfl
  | succ k ih =>
    intro hk
    unfold lsK arcK
    rw [ih (by omega), arc_pos l8 hf]
    by_cases hc : (l.getD i dH).cl.2 < (l.getD k dH).cl.1
    · have hne : i ≠ k := fun hh => by subst hh; have := hf i hi; omega
      rw [if_pos hc, if_pos ⟨hne, (arc_bt l8 hf i k).2 ⟨hi, by omega, hc⟩⟩]
    · rw [if_neg hc, if_neg (fun hh => hc ((arc_bt l8 hf i k).1 hh.2).2.2), List.append_nil]
theorem arc_lsI {l : List Hd} (l8 : l.length ≤ 8) (hf : Fw l) : ∀ i, i ≤ l.length → lsI (posR l.length (arcI l l.length)) i = arcI l i := by
  intro i
  induction i with
  | zero => intro _; rfl
  | succ i ih =>
    intro hi
    show lsI (posR l.length (arcI l l.length)) i ++ lsK (posR l.length (arcI l l.length)) i (posR l.length (arcI l l.length)).length = arcI l i ++ arcK l i l.length
    rw [ih (by omega), posR_len, arc_lsK l8 hf (by omega) _ (Nat.le_refl _)]
theorem arc_int {l : List Hd} {p q : Int × Int} (hp : p ∈ arcI l l.length) (hq : q ∈ arcI l l.length) (hf : Fw l) : (p.1, q.2) ∈ arcI l l.length ∨ (q.1, p.2) ∈ arcI l l.length := by
  obtain ⟨i, j, a1, a2, rfl, a3⟩ := mem_arcI.1 hp
  obtain ⟨k, m, b1, b2, rfl, b3⟩ := mem_arcI.1 hq
  by_cases h : (l.getD i dH).cl.2 < (l.getD m dH).cl.1
  · exact .inl (mem_arcI.2 ⟨i, m, a1, b2, rfl, h⟩)
  · exact .inr (mem_arcI.2 ⟨k, j, b1, a2, rfl, by omega⟩)

theorem r_law_has (nl : Bool) (a : List (Int × Int)) (tl : Tail) (x y : Int) (h : AH) : RCall Try.prog n_law_has [.sl nl a.length (prs a) tl, I x, I y] h (.bool (decide ((x, y) ∈ a))) := by
  refine RCall.of hm cF_law_has (by simp [g_law_has]) fun hw h' hl => ?_
  have hx := wf_len (hw _ (.head _))
  simp only [F_law_has, g_law_has, go_sem, reduceIte, Nat.reduceEqDiff, Nat.reduceAdd, Nat.reduceMul, Nat.reduceSub, reduceCtorEq, Nat.reduceLeDiff, Nat.reduceLT, Int.reduceLT, Int.reduceLE, Int.reduceToNat, Int.reduceAdd, Int.reduceSub, Int.reduceNeg, Int.reduceMul, Int.reduceEq, ← Bool.decide_and, ← Bool.decide_or, ↓tq_n, ↓tq_e, ↓tq_r, ↓bq_n, ↓bq_e, ↓bq_r, ↓rq_n, ↓rq_r, ↓rq_e]
  refine awp_loop (fun i : Nat => [(0, .sl nl a.length (prs a) tl), (1, I x), (2, I y), (7, I i)]) (fun _ => h') (fun i => i ≤ a.length ∧ ∀ j, j < i → a.getD j (0, 0) ≠ (x, y)) (fun i => a.length - i) 0 ⟨Nat.zero_le _, fun j hj => absurd hj (Nat.not_lt_zero _)⟩ (GStep.forget (by repeat' first | exact EnvLe.nil _ | refine EnvLe.cons (AV.le.of_eq rfl) ?_ | refine EnvLe.cons (AV.le.undef _) ?_ | refine EnvLe.cons AV.le.unk ?_) (by repeat' first | exact AH.le.refl _ | assumption | (refine AH.le_put ?_ (by first | assumption | exact (AH.blk_put_ne _ _ (by assumption)).trans (by assumption) | exact AH.none_put (by assumption) | exact AH.none_put (AH.none_put (by assumption)) | (simp only [AH.blk_setTok, AH.tok_put] at *; first | assumption | exact AH.none_put (by assumption)))) | (refine AH.le_setTok ?_ (by first | assumption | exact (AH.blk_put_ne _ _ (by assumption)).trans (by assumption) | exact AH.none_put (by assumption) | exact AH.none_put (AH.none_put (by assumption)) | (simp only [AH.blk_setTok, AH.tok_put] at *; first | assumption | exact AH.none_put (by assumption)))) | (refine AH.le_putM ?_ (by first | assumption | exact (AH.mp_putM_ne _ _ (by assumption)).trans (by assumption) | (simp only [AH.mp_put, AH.mp_setTok] at *; assumption))))) fun i hi => .of_vg hm ?_
  obtain ⟨h1, h2⟩ := hi
  by_cases h3 : i < a.length
  · have hc : (i : Int) < (a.length : Int) := by omega
    by_cases k1 : (a.getD i (0, 0)).1 = x
    · have k1' : decide ((a.getD i (0, 0)).1 = x) = true := decide_eq_true k1
      by_cases k2 : (a.getD i (0, 0)).2 = y
      · have k2' : decide ((a.getD i (0, 0)).2 = y) = true := decide_eq_true k2
        simp only [hc, prs_drop h3, k1', k2', F_law_has, g_law_has, go_sem, reduceIte, Nat.reduceEqDiff, Nat.reduceAdd, Nat.reduceMul, Nat.reduceSub, reduceCtorEq, Nat.reduceLeDiff, Nat.reduceLT, Int.reduceLT, Int.reduceLE, Int.reduceToNat, Int.reduceAdd, Int.reduceSub, Int.reduceNeg, Int.reduceMul, Int.reduceEq, ← Bool.decide_and, ← Bool.decide_or, ↓tq_n, ↓tq_e, ↓tq_r, ↓bq_n, ↓bq_e, ↓bq_r, ↓rq_n, ↓rq_r, ↓rq_e]
        have : (x, y) ∈ a := mem_getD_iff.2 ⟨i, h3, Prod.ext k1 k2⟩
        exact ret_ok (by simp [this])
      · have k2' : decide ((a.getD i (0, 0)).2 = y) = false := decide_eq_false k2
        simp only [hc, prs_drop h3, k1', k2', F_law_has, g_law_has, go_sem, reduceIte, Nat.reduceEqDiff, Nat.reduceAdd, Nat.reduceMul, Nat.reduceSub, reduceCtorEq, Nat.reduceLeDiff, Nat.reduceLT, Int.reduceLT, Int.reduceLE, Int.reduceToNat, Int.reduceAdd, Int.reduceSub, Int.reduceNeg, Int.reduceMul, Int.reduceEq, ← Bool.decide_and, ← Bool.decide_or, ↓tq_n, ↓tq_e, ↓tq_r, ↓bq_n, ↓bq_e, ↓bq_r, ↓rq_n, ↓rq_r, ↓rq_e]
        exact ⟨by rw [inR64]; omega, i + 1, ⟨by omega, all_succ h2 (fun hh => k2 (by rw [hh]))⟩, by omega, (GStep.forget (by repeat' first | exact EnvLe.nil _ | refine EnvLe.cons (AV.le.of_eq rfl) ?_ | refine EnvLe.cons (AV.le.undef _) ?_ | refine EnvLe.cons AV.le.unk ?_) (by repeat' first | exact AH.le.refl _ | assumption | (refine AH.le_put ?_ (by first | assumption | exact (AH.blk_put_ne _ _ (by assumption)).trans (by assumption) | exact AH.none_put (by assumption) | exact AH.none_put (AH.none_put (by assumption)) | (simp only [AH.blk_setTok, AH.tok_put] at *; first | assumption | exact AH.none_put (by assumption)))) | (refine AH.le_setTok ?_ (by first | assumption | exact (AH.blk_put_ne _ _ (by assumption)).trans (by assumption) | exact AH.none_put (by assumption) | exact AH.none_put (AH.none_put (by assumption)) | (simp only [AH.blk_setTok, AH.tok_put] at *; first | assumption | exact AH.none_put (by assumption)))) | (refine AH.le_putM ?_ (by first | assumption | exact (AH.mp_putM_ne _ _ (by assumption)).trans (by assumption) | (simp only [AH.mp_put, AH.mp_setTok] at *; assumption)))))⟩
    · have k1' : decide ((a.getD i (0, 0)).1 = x) = false := decide_eq_false k1
      simp only [hc, prs_drop h3, k1', F_law_has, g_law_has, go_sem, reduceIte, Nat.reduceEqDiff, Nat.reduceAdd, Nat.reduceMul, Nat.reduceSub, reduceCtorEq, Nat.reduceLeDiff, Nat.reduceLT, Int.reduceLT, Int.reduceLE, Int.reduceToNat, Int.reduceAdd, Int.reduceSub, Int.reduceNeg, Int.reduceMul, Int.reduceEq, ← Bool.decide_and, ← Bool.decide_or, ↓tq_n, ↓tq_e, ↓tq_r, ↓bq_n, ↓bq_e, ↓bq_r, ↓rq_n, ↓rq_r, ↓rq_e]
      exact ⟨by rw [inR64]; omega, i + 1, ⟨by omega, all_succ h2 (fun hh => k1 (by rw [hh]))⟩, by omega, (GStep.forget (by repeat' first | exact EnvLe.nil _ | refine EnvLe.cons (AV.le.of_eq rfl) ?_ | refine EnvLe.cons (AV.le.undef _) ?_ | refine EnvLe.cons AV.le.unk ?_) (by repeat' first | exact AH.le.refl _ | assumption | (refine AH.le_put ?_ (by first | assumption | exact (AH.blk_put_ne _ _ (by assumption)).trans (by assumption) | exact AH.none_put (by assumption) | exact AH.none_put (AH.none_put (by assumption)) | (simp only [AH.blk_setTok, AH.tok_put] at *; first | assumption | exact AH.none_put (by assumption)))) | (refine AH.le_setTok ?_ (by first | assumption | exact (AH.blk_put_ne _ _ (by assumption)).trans (by assumption) | exact AH.none_put (by assumption) | exact AH.none_put (AH.none_put (by assumption)) | (simp only [AH.blk_setTok, AH.tok_put] at *; first | assumption | exact AH.none_put (by assumption)))) | (refine AH.le_putM ?_ (by first | assumption | exact (AH.mp_putM_ne _ _ (by assumption)).trans (by assumption) | (simp only [AH.mp_put, AH.mp_setTok] at *; assumption)))))⟩
  · have h3 : i = a.length := by omega
    subst h3
    simp only [F_law_has, g_law_has, go_sem, reduceIte, Nat.reduceEqDiff, Nat.reduceAdd, Nat.reduceMul, Nat.reduceSub, reduceCtorEq, Nat.reduceLeDiff, Nat.reduceLT, Int.reduceLT, Int.reduceLE, Int.reduceToNat, Int.reduceAdd, Int.reduceSub, Int.reduceNeg, Int.reduceMul, Int.reduceEq, ← Bool.decide_and, ← Bool.decide_or, ↓tq_n, ↓tq_e, ↓tq_r, ↓bq_n, ↓bq_e, ↓bq_r, ↓rq_n, ↓rq_r, ↓rq_e]
    have : (x, y) ∉ a := fun hh => by obtain ⟨j, j1, j2⟩ := mem_getD_iff.1 hh; exact h2 j j1 j2
    exact ret_ok (by simp [this])
theorem gl_sl (cs : List AV) (n : Nat) (tl : Tail) : ∃ n1 t1, gl cs n tl = .sl n1 n cs t1 := by unfold gl; exact ⟨_, _, rfl⟩
theorem r_law_BurialIntervals (n1 : Bool) (l : List Hd) (u1 : Tail) (h : AH) : RCall Try.prog n_law_BurialIntervals [.sl n1 l.length (hds l) u1] h (.bool true) := by
  refine RCall.of hm cF_law_BurialIntervals (by simp [g_law_BurialIntervals]) fun hw h' hl => ?_
  simp only [F_law_BurialIntervals, g_law_BurialIntervals, go_sem, reduceIte, Nat.reduceEqDiff, Nat.reduceAdd, Nat.reduceMul, Nat.reduceSub, reduceCtorEq, Nat.reduceLeDiff, Nat.reduceLT, Int.reduceLT, Int.reduceLE, Int.reduceToNat, Int.reduceAdd, Int.reduceSub, Int.reduceNeg, Int.reduceMul, Int.reduceEq, ← Bool.decide_and, ← Bool.decide_or, ↓tq_n, ↓tq_e, ↓tq_r, ↓bq_n, ↓bq_e, ↓bq_r, ↓rq_n, ↓rq_r, ↓rq_e]
  refine CallG.mk (r_law_awake _) ?_
  simp only [F_law_BurialIntervals, g_law_BurialIntervals, go_sem, reduceIte, Nat.reduceEqDiff, Nat.reduceAdd, Nat.reduceMul, Nat.reduceSub, reduceCtorEq, Nat.reduceLeDiff, Nat.reduceLT, Int.reduceLT, Int.reduceLE, Int.reduceToNat, Int.reduceAdd, Int.reduceSub, Int.reduceNeg, Int.reduceMul, Int.reduceEq, ← Bool.decide_and, ← Bool.decide_or, ↓tq_n, ↓tq_e, ↓tq_r, ↓bq_n, ↓bq_e, ↓bq_r, ↓rq_n, ↓rq_r, ↓rq_e]
  refine CallG.mk (r_law_few n1 l u1 _) ?_
  obtain ⟨m1, w1, e1⟩ := arcsV_eq l
  simp only [F_law_BurialIntervals, g_law_BurialIntervals, go_sem, reduceIte, Nat.reduceEqDiff, Nat.reduceAdd, Nat.reduceMul, Nat.reduceSub, reduceCtorEq, Nat.reduceLeDiff, Nat.reduceLT, Int.reduceLT, Int.reduceLE, Int.reduceToNat, Int.reduceAdd, Int.reduceSub, Int.reduceNeg, Int.reduceMul, Int.reduceEq, ← Bool.decide_and, ← Bool.decide_or, ↓tq_n, ↓tq_e, ↓tq_r, ↓bq_n, ↓bq_e, ↓bq_r, ↓rq_n, ↓rq_r, ↓rq_e]
  refine ⟨fun h1 => CallG.mk (r_law_awake _) ?_, fun h1 => CallG.mk (r_burial_Arcs n1 l u1 _) ?_⟩
  · simp only [F_law_BurialIntervals, g_law_BurialIntervals, go_sem, reduceIte, Nat.reduceEqDiff, Nat.reduceAdd, Nat.reduceMul, Nat.reduceSub, reduceCtorEq, Nat.reduceLeDiff, Nat.reduceLT, Int.reduceLT, Int.reduceLE, Int.reduceToNat, Int.reduceAdd, Int.reduceSub, Int.reduceNeg, Int.reduceMul, Int.reduceEq, ← Bool.decide_and, ← Bool.decide_or, ↓tq_n, ↓tq_e, ↓tq_r, ↓bq_n, ↓bq_e, ↓bq_r, ↓rq_n, ↓rq_r, ↓rq_e]; exact ret_ok rfl
  rw [e1]
  by_cases h3 : chk l = 0
  case neg =>
    have e2 : arcsL l = [] := by simp only [arcsL, h3, if_false]
    rw [e2]
    simp only [h3, F_law_BurialIntervals, g_law_BurialIntervals, go_sem, reduceIte, Nat.reduceEqDiff, Nat.reduceAdd, Nat.reduceMul, Nat.reduceSub, reduceCtorEq, Nat.reduceLeDiff, Nat.reduceLT, Int.reduceLT, Int.reduceLE, Int.reduceToNat, Int.reduceAdd, Int.reduceSub, Int.reduceNeg, Int.reduceMul, Int.reduceEq, ← Bool.decide_and, ← Bool.decide_or, ↓tq_n, ↓tq_e, ↓tq_r, ↓bq_n, ↓bq_e, ↓bq_r, ↓rq_n, ↓rq_r, ↓rq_e]
    exact ret_ok (by simp)
  obtain ⟨l8, hvl⟩ := chk_vls h3
  have hf : Fw l := fun i hi => by have := (hvl i hi).1.2.2.2; unfold Yv at this; omega
  have e2 : arcsL l = arcI l l.length := by simp only [arcsL, h3, if_true]
  have hlen : (arcI l l.length).length ≤ 64 := by
    have := arcI_len l l.length
    have h64 : l.length * l.length ≤ 8 * 8 := Nat.mul_le_mul l8 l8
    omega
  have hdg := arc_dg l8 hf
  have hls := arc_lsI l8 hf l.length (Nat.le_refl _)
  have hac := arc_acyclic l8 hf
  have hint : ∀ p ∈ arcI l l.length, ∀ q ∈ arcI l l.length, (p.1, q.2) ∈ arcI l l.length ∨ (q.1, p.2) ∈ arcI l l.length := fun p hp q hq => arc_int hp hq hf
  rw [e2, h3]
  obtain ⟨A, hA⟩ : ∃ A, A = arcI l l.length := ⟨_, rfl⟩
  rw [← hA] at hlen hdg hls hac hint ⊢
  simp only [F_law_BurialIntervals, g_law_BurialIntervals, go_sem, reduceIte, Nat.reduceEqDiff, Nat.reduceAdd, Nat.reduceMul, Nat.reduceSub, reduceCtorEq, Nat.reduceLeDiff, Nat.reduceLT, Int.reduceLT, Int.reduceLE, Int.reduceToNat, Int.reduceAdd, Int.reduceSub, Int.reduceNeg, Int.reduceMul, Int.reduceEq, ← Bool.decide_and, ← Bool.decide_or, ↓tq_n, ↓tq_e, ↓tq_r, ↓bq_n, ↓bq_e, ↓bq_r, ↓rq_n, ↓rq_r, ↓rq_e]
  refine CallG.mk (r_poset_Closure l.length m1 A w1 (by omega) _) ?_
  rw [if_pos hdg, hls]
  obtain ⟨m2, w2, e3⟩ := gl_sl (prs A) A.length .unk
  rw [e3]
  simp only [F_law_BurialIntervals, g_law_BurialIntervals, go_sem, reduceIte, Nat.reduceEqDiff, Nat.reduceAdd, Nat.reduceMul, Nat.reduceSub, reduceCtorEq, Nat.reduceLeDiff, Nat.reduceLT, Int.reduceLT, Int.reduceLE, Int.reduceToNat, Int.reduceAdd, Int.reduceSub, Int.reduceNeg, Int.reduceMul, Int.reduceEq, ← Bool.decide_and, ← Bool.decide_or, ↓tq_n, ↓tq_e, ↓tq_r, ↓bq_n, ↓bq_e, ↓bq_r, ↓rq_n, ↓rq_r, ↓rq_e]
  refine CallG.mk (r_base_Arcs m1 A w1 m2 A w2 _) ?_
  simp only [F_law_BurialIntervals, g_law_BurialIntervals, go_sem, reduceIte, Nat.reduceEqDiff, Nat.reduceAdd, Nat.reduceMul, Nat.reduceSub, reduceCtorEq, Nat.reduceLeDiff, Nat.reduceLT, Int.reduceLT, Int.reduceLE, Int.reduceToNat, Int.reduceAdd, Int.reduceSub, Int.reduceNeg, Int.reduceMul, Int.reduceEq, ← Bool.decide_and, ← Bool.decide_or, ↓tq_n, ↓tq_e, ↓tq_r, ↓bq_n, ↓bq_e, ↓bq_r, ↓rq_n, ↓rq_r, ↓rq_e]
  refine CallG.mk (r_poset_Acyclic l.length m1 A w1 (by omega) _) ?_
  rw [decide_eq_true hdg, hac]
  simp only [F_law_BurialIntervals, g_law_BurialIntervals, go_sem, reduceIte, Nat.reduceEqDiff, Nat.reduceAdd, Nat.reduceMul, Nat.reduceSub, reduceCtorEq, Nat.reduceLeDiff, Nat.reduceLT, Int.reduceLT, Int.reduceLE, Int.reduceToNat, Int.reduceAdd, Int.reduceSub, Int.reduceNeg, Int.reduceMul, Int.reduceEq, ← Bool.decide_and, ← Bool.decide_or, ↓tq_n, ↓tq_e, ↓tq_r, ↓bq_n, ↓bq_e, ↓bq_r, ↓rq_n, ↓rq_r, ↓rq_e]
  refine awp_loop (fun i : Nat => [(0, .sl n1 l.length (hds l) u1), (3, .sl m1 A.length (prs A) w1), (7, I i)]) (fun _ => h') (fun i => i ≤ A.length) (fun i => A.length - i) 0 (Nat.zero_le _) (GStep.forget (by repeat' first | exact EnvLe.nil _ | refine EnvLe.cons (AV.le.of_eq rfl) ?_ | refine EnvLe.cons (AV.le.undef _) ?_ | refine EnvLe.cons AV.le.unk ?_) (by repeat' first | exact AH.le.refl _ | assumption | (refine AH.le_put ?_ (by first | assumption | exact (AH.blk_put_ne _ _ (by assumption)).trans (by assumption) | exact AH.none_put (by assumption) | exact AH.none_put (AH.none_put (by assumption)) | (simp only [AH.blk_setTok, AH.tok_put] at *; first | assumption | exact AH.none_put (by assumption)))) | (refine AH.le_setTok ?_ (by first | assumption | exact (AH.blk_put_ne _ _ (by assumption)).trans (by assumption) | exact AH.none_put (by assumption) | exact AH.none_put (AH.none_put (by assumption)) | (simp only [AH.blk_setTok, AH.tok_put] at *; first | assumption | exact AH.none_put (by assumption)))) | (refine AH.le_putM ?_ (by first | assumption | exact (AH.mp_putM_ne _ _ (by assumption)).trans (by assumption) | (simp only [AH.mp_put, AH.mp_setTok] at *; assumption))))) fun i hi => .of_vg hm ?_
  by_cases h5 : i < A.length
  · have hc : (i : Int) < (A.length : Int) := by omega
    simp only [hc, F_law_BurialIntervals, g_law_BurialIntervals, go_sem, reduceIte, Nat.reduceEqDiff, Nat.reduceAdd, Nat.reduceMul, Nat.reduceSub, reduceCtorEq, Nat.reduceLeDiff, Nat.reduceLT, Int.reduceLT, Int.reduceLE, Int.reduceToNat, Int.reduceAdd, Int.reduceSub, Int.reduceNeg, Int.reduceMul, Int.reduceEq, ← Bool.decide_and, ← Bool.decide_or, ↓tq_n, ↓tq_e, ↓tq_r, ↓bq_n, ↓bq_e, ↓bq_r, ↓rq_n, ↓rq_r, ↓rq_e]
    refine awp_loop (fun k : Nat => [(0, .sl n1 l.length (hds l) u1), (3, .sl m1 A.length (prs A) w1), (7, I i), (8, I k)]) (fun _ => h') (fun k => k ≤ A.length) (fun k => A.length - k) 0 (Nat.zero_le _) (GStep.forget (by repeat' first | exact EnvLe.nil _ | refine EnvLe.cons (AV.le.of_eq rfl) ?_ | refine EnvLe.cons (AV.le.undef _) ?_ | refine EnvLe.cons AV.le.unk ?_) (by repeat' first | exact AH.le.refl _ | assumption | (refine AH.le_put ?_ (by first | assumption | exact (AH.blk_put_ne _ _ (by assumption)).trans (by assumption) | exact AH.none_put (by assumption) | exact AH.none_put (AH.none_put (by assumption)) | (simp only [AH.blk_setTok, AH.tok_put] at *; first | assumption | exact AH.none_put (by assumption)))) | (refine AH.le_setTok ?_ (by first | assumption | exact (AH.blk_put_ne _ _ (by assumption)).trans (by assumption) | exact AH.none_put (by assumption) | exact AH.none_put (AH.none_put (by assumption)) | (simp only [AH.blk_setTok, AH.tok_put] at *; first | assumption | exact AH.none_put (by assumption)))) | (refine AH.le_putM ?_ (by first | assumption | exact (AH.mp_putM_ne _ _ (by assumption)).trans (by assumption) | (simp only [AH.mp_put, AH.mp_setTok] at *; assumption))))) fun k hk => .of_vg hm ?_
    by_cases h6 : k < A.length
    · have hc2 : (k : Int) < (A.length : Int) := by omega
      simp only [hc, hc2, prs_drop h5, prs_drop h6, F_law_BurialIntervals, g_law_BurialIntervals, go_sem, reduceIte, Nat.reduceEqDiff, Nat.reduceAdd, Nat.reduceMul, Nat.reduceSub, reduceCtorEq, Nat.reduceLeDiff, Nat.reduceLT, Int.reduceLT, Int.reduceLE, Int.reduceToNat, Int.reduceAdd, Int.reduceSub, Int.reduceNeg, Int.reduceMul, Int.reduceEq, ← Bool.decide_and, ← Bool.decide_or, ↓tq_n, ↓tq_e, ↓tq_r, ↓bq_n, ↓bq_e, ↓bq_r, ↓rq_n, ↓rq_r, ↓rq_e]
      refine CallG.mk (r_law_has m1 A w1 _ _ _) ?_
      have hor := hint _ (mem_getD (d := (0, 0)) h5) _ (mem_getD (d := (0, 0)) h6)
      by_cases k1 : ((A.getD i (0, 0)).1, (A.getD k (0, 0)).2) ∈ A
      · have k1' := decide_eq_true k1
        rw [k1']
        simp only [F_law_BurialIntervals, g_law_BurialIntervals, go_sem, reduceIte, Nat.reduceEqDiff, Nat.reduceAdd, Nat.reduceMul, Nat.reduceSub, reduceCtorEq, Nat.reduceLeDiff, Nat.reduceLT, Int.reduceLT, Int.reduceLE, Int.reduceToNat, Int.reduceAdd, Int.reduceSub, Int.reduceNeg, Int.reduceMul, Int.reduceEq, ← Bool.decide_and, ← Bool.decide_or, ↓tq_n, ↓tq_e, ↓tq_r, ↓bq_n, ↓bq_e, ↓bq_r, ↓rq_n, ↓rq_r, ↓rq_e]
        exact ⟨by rw [inR64]; omega, k + 1, by omega, by omega, (GStep.forget (by repeat' first | exact EnvLe.nil _ | refine EnvLe.cons (AV.le.of_eq rfl) ?_ | refine EnvLe.cons (AV.le.undef _) ?_ | refine EnvLe.cons AV.le.unk ?_) (by repeat' first | exact AH.le.refl _ | assumption | (refine AH.le_put ?_ (by first | assumption | exact (AH.blk_put_ne _ _ (by assumption)).trans (by assumption) | exact AH.none_put (by assumption) | exact AH.none_put (AH.none_put (by assumption)) | (simp only [AH.blk_setTok, AH.tok_put] at *; first | assumption | exact AH.none_put (by assumption)))) | (refine AH.le_setTok ?_ (by first | assumption | exact (AH.blk_put_ne _ _ (by assumption)).trans (by assumption) | exact AH.none_put (by assumption) | exact AH.none_put (AH.none_put (by assumption)) | (simp only [AH.blk_setTok, AH.tok_put] at *; first | assumption | exact AH.none_put (by assumption)))) | (refine AH.le_putM ?_ (by first | assumption | exact (AH.mp_putM_ne _ _ (by assumption)).trans (by assumption) | (simp only [AH.mp_put, AH.mp_setTok] at *; assumption)))))⟩
      · have k1' := decide_eq_false k1
        rw [k1']
        simp only [hc, hc2, prs_drop h5, prs_drop h6, F_law_BurialIntervals, g_law_BurialIntervals, go_sem, reduceIte, Nat.reduceEqDiff, Nat.reduceAdd, Nat.reduceMul, Nat.reduceSub, reduceCtorEq, Nat.reduceLeDiff, Nat.reduceLT, Int.reduceLT, Int.reduceLE, Int.reduceToNat, Int.reduceAdd, Int.reduceSub, Int.reduceNeg, Int.reduceMul, Int.reduceEq, ← Bool.decide_and, ← Bool.decide_or, ↓tq_n, ↓tq_e, ↓tq_r, ↓bq_n, ↓bq_e, ↓bq_r, ↓rq_n, ↓rq_r, ↓rq_e]
        refine CallG.mk (r_law_has m1 A w1 _ _ _) ?_
        have k2' := decide_eq_true (hor.resolve_left k1)
        rw [k2']
        simp only [F_law_BurialIntervals, g_law_BurialIntervals, go_sem, reduceIte, Nat.reduceEqDiff, Nat.reduceAdd, Nat.reduceMul, Nat.reduceSub, reduceCtorEq, Nat.reduceLeDiff, Nat.reduceLT, Int.reduceLT, Int.reduceLE, Int.reduceToNat, Int.reduceAdd, Int.reduceSub, Int.reduceNeg, Int.reduceMul, Int.reduceEq, ← Bool.decide_and, ← Bool.decide_or, ↓tq_n, ↓tq_e, ↓tq_r, ↓bq_n, ↓bq_e, ↓bq_r, ↓rq_n, ↓rq_r, ↓rq_e]
        exact ⟨by rw [inR64]; omega, k + 1, by omega, by omega, (GStep.forget (by repeat' first | exact EnvLe.nil _ | refine EnvLe.cons (AV.le.of_eq rfl) ?_ | refine EnvLe.cons (AV.le.undef _) ?_ | refine EnvLe.cons AV.le.unk ?_) (by repeat' first | exact AH.le.refl _ | assumption | (refine AH.le_put ?_ (by first | assumption | exact (AH.blk_put_ne _ _ (by assumption)).trans (by assumption) | exact AH.none_put (by assumption) | exact AH.none_put (AH.none_put (by assumption)) | (simp only [AH.blk_setTok, AH.tok_put] at *; first | assumption | exact AH.none_put (by assumption)))) | (refine AH.le_setTok ?_ (by first | assumption | exact (AH.blk_put_ne _ _ (by assumption)).trans (by assumption) | exact AH.none_put (by assumption) | exact AH.none_put (AH.none_put (by assumption)) | (simp only [AH.blk_setTok, AH.tok_put] at *; first | assumption | exact AH.none_put (by assumption)))) | (refine AH.le_putM ?_ (by first | assumption | exact (AH.mp_putM_ne _ _ (by assumption)).trans (by assumption) | (simp only [AH.mp_put, AH.mp_setTok] at *; assumption)))))⟩
    have h6 : k = A.length := by omega
    subst h6
    simp only [F_law_BurialIntervals, g_law_BurialIntervals, go_sem, reduceIte, Nat.reduceEqDiff, Nat.reduceAdd, Nat.reduceMul, Nat.reduceSub, reduceCtorEq, Nat.reduceLeDiff, Nat.reduceLT, Int.reduceLT, Int.reduceLE, Int.reduceToNat, Int.reduceAdd, Int.reduceSub, Int.reduceNeg, Int.reduceMul, Int.reduceEq, ← Bool.decide_and, ← Bool.decide_or, ↓tq_n, ↓tq_e, ↓tq_r, ↓bq_n, ↓bq_e, ↓bq_r, ↓rq_n, ↓rq_r, ↓rq_e]
    exact ⟨by rw [inR64]; omega, i + 1, by omega, by omega, (GStep.forget (by repeat' first | exact EnvLe.nil _ | refine EnvLe.cons (AV.le.of_eq rfl) ?_ | refine EnvLe.cons (AV.le.undef _) ?_ | refine EnvLe.cons AV.le.unk ?_) (by repeat' first | exact AH.le.refl _ | assumption | (refine AH.le_put ?_ (by first | assumption | exact (AH.blk_put_ne _ _ (by assumption)).trans (by assumption) | exact AH.none_put (by assumption) | exact AH.none_put (AH.none_put (by assumption)) | (simp only [AH.blk_setTok, AH.tok_put] at *; first | assumption | exact AH.none_put (by assumption)))) | (refine AH.le_setTok ?_ (by first | assumption | exact (AH.blk_put_ne _ _ (by assumption)).trans (by assumption) | exact AH.none_put (by assumption) | exact AH.none_put (AH.none_put (by assumption)) | (simp only [AH.blk_setTok, AH.tok_put] at *; first | assumption | exact AH.none_put (by assumption)))) | (refine AH.le_putM ?_ (by first | assumption | exact (AH.mp_putM_ne _ _ (by assumption)).trans (by assumption) | (simp only [AH.mp_put, AH.mp_setTok] at *; assumption)))))⟩
  have h5 : i = A.length := by omega
  subst h5
  simp only [F_law_BurialIntervals, g_law_BurialIntervals, go_sem, reduceIte, Nat.reduceEqDiff, Nat.reduceAdd, Nat.reduceMul, Nat.reduceSub, reduceCtorEq, Nat.reduceLeDiff, Nat.reduceLT, Int.reduceLT, Int.reduceLE, Int.reduceToNat, Int.reduceAdd, Int.reduceSub, Int.reduceNeg, Int.reduceMul, Int.reduceEq, ← Bool.decide_and, ← Bool.decide_or, ↓tq_n, ↓tq_e, ↓tq_r, ↓bq_n, ↓bq_e, ↓bq_r, ↓rq_n, ↓rq_r, ↓rq_e]
  exact ret_ok rfl
end Go.Proofs.Ytnekkkjedmlloaa
