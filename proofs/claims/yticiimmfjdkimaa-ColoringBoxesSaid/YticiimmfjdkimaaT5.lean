/- The law ColoringOrder. No condition. -/
import Derived.Test.YticiimmfjdkimaaT4
namespace Go.Proofs.Yticiimmfjdkimaa
open Go Go.Abs
set_option linter.unusedSimpArgs false
set_option linter.unusedVariables false
set_option maxRecDepth 20000

theorem prm_of {l : List Int} {N : Nat} (hn : l.Nodup) (hm : ∀ x, x ∈ l ↔ 0 ≤ x ∧ x < N) : Prm l N := by
  have h1 := sub_len hn (B := upN N) fun x hx => mem_upN.2 ((hm x).1 hx)
  have h2 := sub_len (upN_nodup N) (B := l) fun x hx => (hm x).2 (mem_upN.1 hx)
  rw [upN_len] at h1 h2
  have hl : l.length = N := by omega
  refine ⟨hl, fun i hi => ⟨(hm _).1 (mem_getD (by omega)), fun k hk hh => ?_⟩⟩
  have hi2 : i < l.length := by omega
  have hk2 : k < l.length := by omega
  simp only [List.getD_eq_getElem?_getD, List.getElem?_eq_getElem hi2, List.getElem?_eq_getElem hk2, Option.getD_some] at hh
  have := (List.getElem_inj hn).1 hh
  omega
/-- The vertices with one color, and those with the first colors. -/
def oI (c : List Int) (x : Nat) : Nat → List Int
  | 0 => []
  | i + 1 => if c.getD i 0 = x then oI c x i ++ [(i : Int)] else oI c x i
def oC (c : List Int) : Nat → List Int
  | 0 => []
  | x + 1 => oC c x ++ oI c x c.length
theorem mem_oI {c : List Int} {x : Nat} {y : Int} : ∀ {i : Nat}, y ∈ oI c x i ↔ ∃ j : Nat, j < i ∧ y = j ∧ c.getD j 0 = x := by
  intro i
  induction i with
  | zero => simp [oI]
  | succ i ih =>
    unfold oI
    split
    · rename_i hc
      rw [List.mem_append, ih, List.mem_singleton]
      constructor
      · rintro (⟨j, a, b⟩ | rfl)
        · exact ⟨j, by omega, b⟩
        · exact ⟨i, by omega, rfl, hc⟩
      · rintro ⟨j, a, b, d⟩
        by_cases hj : j = i
        · subst hj; exact .inr b
        · exact .inl ⟨j, by omega, b, d⟩
    · rename_i hc
      rw [ih]
      constructor
      · rintro ⟨j, a, b⟩; exact ⟨j, by omega, b⟩
      · rintro ⟨j, a, b, d⟩
        by_cases hj : j = i
        · subst hj; exact absurd d hc
        · exact ⟨j, by omega, b, d⟩
theorem oI_nodup (c : List Int) (x : Nat) : ∀ i, (oI c x i).Nodup := by
  intro i
  induction i with
  | zero => simp [oI]
  | succ i ih =>
    unfold oI
    split
    · refine List.nodup_append.2 ⟨ih, by simp, fun a ha b hb hh => ?_⟩
      rw [List.mem_singleton] at hb
      obtain ⟨j, a1, a2, _⟩ := mem_oI.1 ha
      omega
    · exact ih
theorem mem_oC {c : List Int} {y : Int} : ∀ {X : Nat}, y ∈ oC c X ↔ ∃ j : Nat, j < c.length ∧ y = j ∧ 0 ≤ c.getD j 0 ∧ c.getD j 0 < X := by
  intro X
  induction X with
  | zero => simp only [oC, List.not_mem_nil, false_iff]; rintro ⟨j, _, _, a, b⟩; omega
  | succ X ih =>
    unfold oC
    rw [List.mem_append, ih, mem_oI]
    constructor
    · rintro (⟨j, a, b, d, f⟩ | ⟨j, a, b, d⟩)
      · exact ⟨j, a, b, d, by omega⟩
      · exact ⟨j, a, b, by omega, by omega⟩
    · rintro ⟨j, a, b, d, f⟩
      by_cases hj : c.getD j 0 = X
      · exact .inr ⟨j, a, b, hj⟩
      · exact .inl ⟨j, a, b, d, by omega⟩
theorem oC_nodup (c : List Int) : ∀ X, (oC c X).Nodup := by
  intro X
  induction X with
  | zero => simp [oC]
  | succ X ih =>
    unfold oC
    refine List.nodup_append.2 ⟨ih, oI_nodup c X _, fun a ha b hb hh => ?_⟩
    obtain ⟨j, _, a2, _, a4⟩ := mem_oC.1 ha
    obtain ⟨k, _, b2, b3⟩ := mem_oI.1 hb
    have : j = k := by omega
    subst this
    omega
theorem oC_pw (c : List Int) : ∀ X, (oC c X).Pairwise fun a b => c.getD a.toNat 0 ≤ c.getD b.toNat 0 := by
  intro X
  induction X with
  | zero => simp [oC]
  | succ X ih =>
    unfold oC
    refine List.pairwise_append.2 ⟨ih, ?_, fun a ha b hb => ?_⟩
    · refine List.pairwise_iff_getElem.2 fun i j hi hj _ => ?_
      obtain ⟨k, _, a2, a3⟩ := mem_oI.1 (List.getElem_mem hi)
      obtain ⟨m, _, b2, b3⟩ := mem_oI.1 (List.getElem_mem hj)
      rw [a2, b2, Int.toNat_natCast, Int.toNat_natCast, a3, b3]
      exact Int.le_refl _
    · obtain ⟨j, _, a2, _, a4⟩ := mem_oC.1 ha
      obtain ⟨k, _, b2, b3⟩ := mem_oI.1 hb
      rw [a2, b2, Int.toNat_natCast, Int.toNat_natCast, b3]
      omega
theorem oC_prm {c : List Int} (h : ∀ i, i < c.length → 0 ≤ c.getD i 0 ∧ c.getD i 0 < 12) : Prm (oC c 12) c.length := by
  refine prm_of (oC_nodup c 12) fun x => ?_
  rw [mem_oC]
  constructor
  · rintro ⟨j, a, b, _⟩; omega
  · intro hx
    refine ⟨x.toNat, by omega, by omega, ?_⟩
    have := h x.toNat (by omega)
    exact ⟨this.1, by omega⟩
theorem pw_at {α : Type} {R : α → α → Prop} {l : List α} (h : l.Pairwise R) (d : α) {i j : Nat} (hij : i < j) (hj : j < l.length) : R (l.getD i d) (l.getD j d) := by
  have := List.pairwise_iff_getElem.1 h i j (by omega) hj hij
  simp only [List.getD_eq_getElem?_getD, List.getElem?_eq_getElem hj, List.getElem?_eq_getElem (show i < l.length by omega), Option.getD_some]
  exact this
theorem oI_len (c : List Int) (x i : Nat) : (oI c x i).length ≤ i := by
  induction i with
  | zero => simp [oI]
  | succ i ih => unfold oI; split
                 · simp only [List.length_append, List.length_singleton]; omega
                 · omega
theorem oC_len (c : List Int) (x : Nat) : (oC c x).length ≤ x * c.length := by
  induction x with
  | zero => simp [oC]
  | succ x ih => have := oI_len c x c.length; simp only [oC, List.length_append, Nat.add_mul, Nat.one_mul]; omega

theorem r_law_ColoringOrder (n : Int) (n1 : Bool) (e : List (Int × Int)) (u1 : Tail) (h : AH) : RCall Try.prog n_law_ColoringOrderW [I n, .sl n1 e.length (prs e) u1] h (.bool true) := by
  refine RCall.of hm cF_law_ColoringOrderW (by simp [g_law_ColoringOrderW]) fun hw h' hl => ?_
  simp only [F_law_ColoringOrderW, g_law_ColoringOrderW, go_sem, reduceIte, Nat.reduceEqDiff, Nat.reduceAdd, Nat.reduceMul, Nat.reduceSub, reduceCtorEq, Nat.reduceLeDiff, Nat.reduceLT, Int.reduceLT, Int.reduceLE, Int.reduceToNat, Int.reduceAdd, Int.reduceSub, Int.reduceNeg, Int.reduceMul, Int.reduceEq, ← Bool.decide_and, ← Bool.decide_or, ↓tq_n, ↓tq_e, ↓tq_r, ↓bq_n, ↓bq_e, ↓bq_r, ↓rq_n, ↓rq_r, ↓rq_e]
  refine CallG.mk (r_law_awake _) ?_
  simp only [F_law_ColoringOrderW, g_law_ColoringOrderW, go_sem, reduceIte, Nat.reduceEqDiff, Nat.reduceAdd, Nat.reduceMul, Nat.reduceSub, reduceCtorEq, Nat.reduceLeDiff, Nat.reduceLT, Int.reduceLT, Int.reduceLE, Int.reduceToNat, Int.reduceAdd, Int.reduceSub, Int.reduceNeg, Int.reduceMul, Int.reduceEq, ← Bool.decide_and, ← Bool.decide_or, ↓tq_n, ↓tq_e, ↓tq_r, ↓bq_n, ↓bq_e, ↓bq_r, ↓rq_n, ↓rq_r, ↓rq_e]
  refine CallG.mk (r_law_few n1 e.length (prs e) u1 _) ?_
  by_cases k1 : (e.length : Int) ≤ 80
  case neg =>
    rw [decide_eq_false k1]
    simp only [F_law_ColoringOrderW, g_law_ColoringOrderW, go_sem, reduceIte, Nat.reduceEqDiff, Nat.reduceAdd, Nat.reduceMul, Nat.reduceSub, reduceCtorEq, Nat.reduceLeDiff, Nat.reduceLT, Int.reduceLT, Int.reduceLE, Int.reduceToNat, Int.reduceAdd, Int.reduceSub, Int.reduceNeg, Int.reduceMul, Int.reduceEq, ← Bool.decide_and, ← Bool.decide_or, ↓tq_n, ↓tq_e, ↓tq_r, ↓bq_n, ↓bq_e, ↓bq_r, ↓rq_n, ↓rq_r, ↓rq_e]
    refine CallG.mk (r_law_awake _) ?_
    simp only [F_law_ColoringOrderW, g_law_ColoringOrderW, go_sem, reduceIte, Nat.reduceEqDiff, Nat.reduceAdd, Nat.reduceMul, Nat.reduceSub, reduceCtorEq, Nat.reduceLeDiff, Nat.reduceLT, Int.reduceLT, Int.reduceLE, Int.reduceToNat, Int.reduceAdd, Int.reduceSub, Int.reduceNeg, Int.reduceMul, Int.reduceEq, ← Bool.decide_and, ← Bool.decide_or, ↓tq_n, ↓tq_e, ↓tq_r, ↓bq_n, ↓bq_e, ↓bq_r, ↓rq_n, ↓rq_r, ↓rq_e]
    exact ret_ok rfl
  rw [decide_eq_true k1]
  simp only [F_law_ColoringOrderW, g_law_ColoringOrderW, go_sem, reduceIte, Nat.reduceEqDiff, Nat.reduceAdd, Nat.reduceMul, Nat.reduceSub, reduceCtorEq, Nat.reduceLeDiff, Nat.reduceLT, Int.reduceLT, Int.reduceLE, Int.reduceToNat, Int.reduceAdd, Int.reduceSub, Int.reduceNeg, Int.reduceMul, Int.reduceEq, ← Bool.decide_and, ← Bool.decide_or, ↓tq_n, ↓tq_e, ↓tq_r, ↓bq_n, ↓bq_e, ↓bq_r, ↓rq_n, ↓rq_r, ↓rq_e]
  refine CallG.mk (r_coloring_Color n1 n e u1 _) ?_
  by_cases hv : Vd n e
  case neg =>
    rw [if_neg hv, if_neg hv]
    simp only [F_law_ColoringOrderW, g_law_ColoringOrderW, go_sem, reduceIte, Nat.reduceEqDiff, Nat.reduceAdd, Nat.reduceMul, Nat.reduceSub, reduceCtorEq, Nat.reduceLeDiff, Nat.reduceLT, Int.reduceLT, Int.reduceLE, Int.reduceToNat, Int.reduceAdd, Int.reduceSub, Int.reduceNeg, Int.reduceMul, Int.reduceEq, ← Bool.decide_and, ← Bool.decide_or, ↓tq_n, ↓tq_e, ↓tq_r, ↓bq_n, ↓bq_e, ↓bq_r, ↓rq_n, ↓rq_r, ↓rq_e]
    exact ret_ok rfl
  rw [if_pos hv, if_pos hv]
  have hn0 := hv.1
  have hn12 := hv.2.1
  obtain ⟨cs1, cs2, cs3⟩ := col_spec hv
  obtain ⟨ck1, ck2, _, _⟩ := chi_kc hv
  have hic := col_isC hv
  have hcn := col_colN hv
  obtain ⟨c, hcd⟩ : ∃ c, c = col n e := ⟨_, rfl⟩
  rw [← hcd] at cs1 cs2 cs3 hic hcn ⊢
  have hprm : Prm (oC c 12) c.length := oC_prm fun i hi => by have := cs3 i hi; omega
  rw [cs1] at hprm
  obtain ⟨gi1, gi2⟩ := grd_isC hv hprm
  have hle := grd_le hv (by omega) hprm hic (fun j i hji hi => pw_at (oC_pw c 12) 0 hji (by have := hprm.1; omega)) n.toNat (Nat.le_refl _)
  have hgl := grd_len e (oC c 12) n.toNat n.toNat
  have hgv : gV n e (oC c 12) = .tup [.sl false n.toNat (i64s (grd e (oC c 12) n.toNat n.toNat)) .unk, I 0] := by unfold gV; rw [if_pos hv, if_pos hprm]
  have hgN : (colN (grd e (oC c 12) n.toNat n.toNat) : Int) = chi n e := colN_eq gi1 fun i hi => by
    have := hle i (by omega)
    have := cs3 i (by omega)
    omega
  simp only [F_law_ColoringOrderW, g_law_ColoringOrderW, go_sem, reduceIte, Nat.reduceEqDiff, Nat.reduceAdd, Nat.reduceMul, Nat.reduceSub, reduceCtorEq, Nat.reduceLeDiff, Nat.reduceLT, Int.reduceLT, Int.reduceLE, Int.reduceToNat, Int.reduceAdd, Int.reduceSub, Int.reduceNeg, Int.reduceMul, Int.reduceEq, ← Bool.decide_and, ← Bool.decide_or, ↓tq_n, ↓tq_e, ↓tq_r, ↓bq_n, ↓bq_e, ↓bq_r, ↓rq_n, ↓rq_r, ↓rq_e]
  refine awp_tok 7 1 (nl := true) (n := 0) (cs := []) rfl fun tk ht => ?_
  refine awp_loop (fun x : Nat => [(0, I n), (1, .sl n1 e.length (prs e) u1), (5, .sl false c.length (i64s c) .unk), (7, gl (i64s (oC c x)) (oC c x).length (.tok tk)), (8, I x)]) (fun x => h'.setTok tk (oC c x).length 1) (fun x => x ≤ 12) (fun x => 12 - x) 0 (Nat.zero_le _) (GStep.forget (by repeat' first | exact EnvLe.nil _ | refine EnvLe.cons (AV.le.of_eq rfl) ?_ | refine EnvLe.cons (AV.le.undef _) ?_ | refine EnvLe.cons AV.le.unk ?_) (by repeat' first | exact AH.le.refl _ | assumption | (refine AH.le_put ?_ (by first | assumption | exact (AH.blk_put_ne _ _ (by assumption)).trans (by assumption) | exact AH.none_put (by assumption) | exact AH.none_put (AH.none_put (by assumption)) | (simp only [AH.blk_setTok, AH.tok_put] at *; first | assumption | exact AH.none_put (by assumption)))) | (refine AH.le_setTok ?_ (by first | assumption | exact (AH.blk_put_ne _ _ (by assumption)).trans (by assumption) | exact AH.none_put (by assumption) | exact AH.none_put (AH.none_put (by assumption)) | (simp only [AH.blk_setTok, AH.tok_put] at *; first | assumption | exact AH.none_put (by assumption)))) | (refine AH.le_putM ?_ (by first | assumption | exact (AH.mp_putM_ne _ _ (by assumption)).trans (by assumption) | (simp only [AH.mp_put, AH.mp_setTok] at *; assumption))))) fun x hx => .of_vg hm ?_
  by_cases h3 : x < 12
  · have hc : (x : Int) < 12 := by omega
    have hxl := oC_len c x
    have hx2 : x * c.length ≤ 12 * 12 := Nat.mul_le_mul (by omega) (by omega)
    simp only [hc, F_law_ColoringOrderW, g_law_ColoringOrderW, go_sem, reduceIte, Nat.reduceEqDiff, Nat.reduceAdd, Nat.reduceMul, Nat.reduceSub, reduceCtorEq, Nat.reduceLeDiff, Nat.reduceLT, Int.reduceLT, Int.reduceLE, Int.reduceToNat, Int.reduceAdd, Int.reduceSub, Int.reduceNeg, Int.reduceMul, Int.reduceEq, ← Bool.decide_and, ← Bool.decide_or, ↓tq_n, ↓tq_e, ↓tq_r, ↓bq_n, ↓bq_e, ↓bq_r, ↓rq_n, ↓rq_r, ↓rq_e]
    refine awp_loop (fun i : Nat => [(0, I n), (1, .sl n1 e.length (prs e) u1), (5, .sl false c.length (i64s c) .unk), (7, gl (i64s (oC c x ++ oI c x i)) (oC c x ++ oI c x i).length (.tok tk)), (8, I x), (9, I i)]) (fun i => h'.setTok tk (oC c x ++ oI c x i).length 1) (fun i => i ≤ c.length) (fun i => c.length - i) 0 (Nat.zero_le _) (by simp only [oI, List.append_nil]; exact (GStep.forget (by repeat' first | exact EnvLe.nil _ | refine EnvLe.cons (AV.le.of_eq rfl) ?_ | refine EnvLe.cons (AV.le.undef _) ?_ | refine EnvLe.cons AV.le.unk ?_) (by repeat' first | exact AH.le.refl _ | assumption | (refine AH.le_put ?_ (by first | assumption | exact (AH.blk_put_ne _ _ (by assumption)).trans (by assumption) | exact AH.none_put (by assumption) | exact AH.none_put (AH.none_put (by assumption)) | (simp only [AH.blk_setTok, AH.tok_put] at *; first | assumption | exact AH.none_put (by assumption)))) | (refine AH.le_setTok ?_ (by first | assumption | exact (AH.blk_put_ne _ _ (by assumption)).trans (by assumption) | exact AH.none_put (by assumption) | exact AH.none_put (AH.none_put (by assumption)) | (simp only [AH.blk_setTok, AH.tok_put] at *; first | assumption | exact AH.none_put (by assumption)))) | (refine AH.le_putM ?_ (by first | assumption | exact (AH.mp_putM_ne _ _ (by assumption)).trans (by assumption) | (simp only [AH.mp_put, AH.mp_setTok] at *; assumption)))))) fun i hi => .of_vg hm ?_
    by_cases h5 : i < c.length
    · have hc5 : (i : Int) < (c.length : Int) := by omega
      have hil := oI_len c x i
      have hlen : (oC c x ++ oI c x i).length ≤ 1000 := by rw [List.length_append]; omega
      by_cases h6 : c.getD i 0 = (x : Int)
      · have e1 : oI c x (i + 1) = oI c x i ++ [(i : Int)] := by rw [oI, if_pos h6]
        have hln : (i64s (oC c x ++ oI c x i)).length = (oC c x ++ oI c x i).length := by rw [i64s_len]
        simp only [hc5, i64s_drop h5, h6, F_law_ColoringOrderW, g_law_ColoringOrderW, go_sem, reduceIte, Nat.reduceEqDiff, Nat.reduceAdd, Nat.reduceMul, Nat.reduceSub, reduceCtorEq, Nat.reduceLeDiff, Nat.reduceLT, Int.reduceLT, Int.reduceLE, Int.reduceToNat, Int.reduceAdd, Int.reduceSub, Int.reduceNeg, Int.reduceMul, Int.reduceEq, ← Bool.decide_and, ← Bool.decide_or, ↓tq_n, ↓tq_e, ↓tq_r, ↓bq_n, ↓bq_e, ↓bq_r, ↓rq_n, ↓rq_r, ↓rq_e]
        refine ⟨hln, by omega, by omega, by rw [inR64]; omega, i + 1, by omega, by omega, ?_⟩
        simp only [e1, ← List.append_assoc, i64s_append, i64s_one, List.length_append, List.length_cons, List.length_nil, ← Nat.add_assoc]
        exact (GStep.forget (by repeat' first | exact EnvLe.nil _ | refine EnvLe.cons (AV.le.of_eq rfl) ?_ | refine EnvLe.cons (AV.le.undef _) ?_ | refine EnvLe.cons AV.le.unk ?_) (by repeat' first | exact AH.le.refl _ | assumption | (refine AH.le_put ?_ (by first | assumption | exact (AH.blk_put_ne _ _ (by assumption)).trans (by assumption) | exact AH.none_put (by assumption) | exact AH.none_put (AH.none_put (by assumption)) | (simp only [AH.blk_setTok, AH.tok_put] at *; first | assumption | exact AH.none_put (by assumption)))) | (refine AH.le_setTok ?_ (by first | assumption | exact (AH.blk_put_ne _ _ (by assumption)).trans (by assumption) | exact AH.none_put (by assumption) | exact AH.none_put (AH.none_put (by assumption)) | (simp only [AH.blk_setTok, AH.tok_put] at *; first | assumption | exact AH.none_put (by assumption)))) | (refine AH.le_putM ?_ (by first | assumption | exact (AH.mp_putM_ne _ _ (by assumption)).trans (by assumption) | (simp only [AH.mp_put, AH.mp_setTok] at *; assumption)))))
      · have e1 : oI c x (i + 1) = oI c x i := by rw [oI, if_neg h6]
        simp only [hc5, i64s_drop h5, h6, F_law_ColoringOrderW, g_law_ColoringOrderW, go_sem, reduceIte, Nat.reduceEqDiff, Nat.reduceAdd, Nat.reduceMul, Nat.reduceSub, reduceCtorEq, Nat.reduceLeDiff, Nat.reduceLT, Int.reduceLT, Int.reduceLE, Int.reduceToNat, Int.reduceAdd, Int.reduceSub, Int.reduceNeg, Int.reduceMul, Int.reduceEq, ← Bool.decide_and, ← Bool.decide_or, ↓tq_n, ↓tq_e, ↓tq_r, ↓bq_n, ↓bq_e, ↓bq_r, ↓rq_n, ↓rq_r, ↓rq_e]
        refine ⟨by rw [inR64]; omega, i + 1, by omega, by omega, ?_⟩
        rw [e1]
        exact (GStep.forget (by repeat' first | exact EnvLe.nil _ | refine EnvLe.cons (AV.le.of_eq rfl) ?_ | refine EnvLe.cons (AV.le.undef _) ?_ | refine EnvLe.cons AV.le.unk ?_) (by repeat' first | exact AH.le.refl _ | assumption | (refine AH.le_put ?_ (by first | assumption | exact (AH.blk_put_ne _ _ (by assumption)).trans (by assumption) | exact AH.none_put (by assumption) | exact AH.none_put (AH.none_put (by assumption)) | (simp only [AH.blk_setTok, AH.tok_put] at *; first | assumption | exact AH.none_put (by assumption)))) | (refine AH.le_setTok ?_ (by first | assumption | exact (AH.blk_put_ne _ _ (by assumption)).trans (by assumption) | exact AH.none_put (by assumption) | exact AH.none_put (AH.none_put (by assumption)) | (simp only [AH.blk_setTok, AH.tok_put] at *; first | assumption | exact AH.none_put (by assumption)))) | (refine AH.le_putM ?_ (by first | assumption | exact (AH.mp_putM_ne _ _ (by assumption)).trans (by assumption) | (simp only [AH.mp_put, AH.mp_setTok] at *; assumption)))))
    have h5 : i = c.length := by omega
    subst h5
    simp only [F_law_ColoringOrderW, g_law_ColoringOrderW, go_sem, reduceIte, Nat.reduceEqDiff, Nat.reduceAdd, Nat.reduceMul, Nat.reduceSub, reduceCtorEq, Nat.reduceLeDiff, Nat.reduceLT, Int.reduceLT, Int.reduceLE, Int.reduceToNat, Int.reduceAdd, Int.reduceSub, Int.reduceNeg, Int.reduceMul, Int.reduceEq, ← Bool.decide_and, ← Bool.decide_or, ↓tq_n, ↓tq_e, ↓tq_r, ↓bq_n, ↓bq_e, ↓bq_r, ↓rq_n, ↓rq_r, ↓rq_e]
    exact ⟨by rw [inR64]; omega, x + 1, by omega, by omega, (GStep.forget (by repeat' first | exact EnvLe.nil _ | refine EnvLe.cons (AV.le.of_eq rfl) ?_ | refine EnvLe.cons (AV.le.undef _) ?_ | refine EnvLe.cons AV.le.unk ?_) (by repeat' first | exact AH.le.refl _ | assumption | (refine AH.le_put ?_ (by first | assumption | exact (AH.blk_put_ne _ _ (by assumption)).trans (by assumption) | exact AH.none_put (by assumption) | exact AH.none_put (AH.none_put (by assumption)) | (simp only [AH.blk_setTok, AH.tok_put] at *; first | assumption | exact AH.none_put (by assumption)))) | (refine AH.le_setTok ?_ (by first | assumption | exact (AH.blk_put_ne _ _ (by assumption)).trans (by assumption) | exact AH.none_put (by assumption) | exact AH.none_put (AH.none_put (by assumption)) | (simp only [AH.blk_setTok, AH.tok_put] at *; first | assumption | exact AH.none_put (by assumption)))) | (refine AH.le_putM ?_ (by first | assumption | exact (AH.mp_putM_ne _ _ (by assumption)).trans (by assumption) | (simp only [AH.mp_put, AH.mp_setTok] at *; assumption)))))⟩
  have h3 : x = 12 := by omega
  subst h3
  have hc : ¬ ((12 : Nat) : Int) < 12 := by omega
  simp only [hc, F_law_ColoringOrderW, g_law_ColoringOrderW, go_sem, reduceIte, Nat.reduceEqDiff, Nat.reduceAdd, Nat.reduceMul, Nat.reduceSub, reduceCtorEq, Nat.reduceLeDiff, Nat.reduceLT, Int.reduceLT, Int.reduceLE, Int.reduceToNat, Int.reduceAdd, Int.reduceSub, Int.reduceNeg, Int.reduceMul, Int.reduceEq, ← Bool.decide_and, ← Bool.decide_or, ↓tq_n, ↓tq_e, ↓tq_r, ↓bq_n, ↓bq_e, ↓bq_r, ↓rq_n, ↓rq_r, ↓rq_e]
  have hol : (oC c 12).length ≤ 1000000 := by have := hprm.1; omega
  refine CallG.mk (r_coloring_Greedy n n1 e u1 (decide ((oC c 12).length = 0)) (oC c 12) (.tok tk) hol _) ?_
  rw [hgv]
  have hq1 : decide ((n.toNat : Int) = (c.length : Int)) = true := decide_eq_true (by omega)
  have hq2 : decide ((c.length : Int) = n) = true := decide_eq_true (by omega)
  obtain ⟨G, hG⟩ : ∃ G, G = grd e (oC c 12) n.toNat n.toNat := ⟨_, rfl⟩
  rw [← hG] at hgl hle hgN ⊢
  rw [← hgl] at hq1 ⊢
  simp only [hq1, hq2, F_law_ColoringOrderW, g_law_ColoringOrderW, go_sem, reduceIte, Nat.reduceEqDiff, Nat.reduceAdd, Nat.reduceMul, Nat.reduceSub, reduceCtorEq, Nat.reduceLeDiff, Nat.reduceLT, Int.reduceLT, Int.reduceLE, Int.reduceToNat, Int.reduceAdd, Int.reduceSub, Int.reduceNeg, Int.reduceMul, Int.reduceEq, ← Bool.decide_and, ← Bool.decide_or, ↓tq_n, ↓tq_e, ↓tq_r, ↓bq_n, ↓bq_e, ↓bq_r, ↓rq_n, ↓rq_r, ↓rq_e]
  refine awp_loop (fun i : Nat => [(5, .sl false c.length (i64s c) .unk), (10, .sl false G.length (i64s G) .unk), (12, I i)]) (fun _ => h'.setTok tk (oC c 12).length 1) (fun i => i ≤ c.length) (fun i => c.length - i) 0 (Nat.zero_le _) (GStep.forget (by repeat' first | exact EnvLe.nil _ | refine EnvLe.cons (AV.le.of_eq rfl) ?_ | refine EnvLe.cons (AV.le.undef _) ?_ | refine EnvLe.cons AV.le.unk ?_) (by repeat' first | exact AH.le.refl _ | assumption | (refine AH.le_put ?_ (by first | assumption | exact (AH.blk_put_ne _ _ (by assumption)).trans (by assumption) | exact AH.none_put (by assumption) | exact AH.none_put (AH.none_put (by assumption)) | (simp only [AH.blk_setTok, AH.tok_put] at *; first | assumption | exact AH.none_put (by assumption)))) | (refine AH.le_setTok ?_ (by first | assumption | exact (AH.blk_put_ne _ _ (by assumption)).trans (by assumption) | exact AH.none_put (by assumption) | exact AH.none_put (AH.none_put (by assumption)) | (simp only [AH.blk_setTok, AH.tok_put] at *; first | assumption | exact AH.none_put (by assumption)))) | (refine AH.le_putM ?_ (by first | assumption | exact (AH.mp_putM_ne _ _ (by assumption)).trans (by assumption) | (simp only [AH.mp_put, AH.mp_setTok] at *; assumption))))) fun i hi => .of_vg hm ?_
  by_cases h5 : i < c.length
  · have hc5 : (i : Int) < (c.length : Int) := by omega
    have hc6 : (i : Int) < (G.length : Int) := by omega
    have hle2 : ¬ c.getD i 0 < G.getD i 0 := by have := hle i (by omega); omega
    simp only [hc5, hc6, i64s_drop h5, i64s_drop (show i < G.length by omega), hle2, F_law_ColoringOrderW, g_law_ColoringOrderW, go_sem, reduceIte, Nat.reduceEqDiff, Nat.reduceAdd, Nat.reduceMul, Nat.reduceSub, reduceCtorEq, Nat.reduceLeDiff, Nat.reduceLT, Int.reduceLT, Int.reduceLE, Int.reduceToNat, Int.reduceAdd, Int.reduceSub, Int.reduceNeg, Int.reduceMul, Int.reduceEq, ← Bool.decide_and, ← Bool.decide_or, ↓tq_n, ↓tq_e, ↓tq_r, ↓bq_n, ↓bq_e, ↓bq_r, ↓rq_n, ↓rq_r, ↓rq_e]
    exact ⟨by rw [inR64]; omega, i + 1, by omega, by omega, (GStep.forget (by repeat' first | exact EnvLe.nil _ | refine EnvLe.cons (AV.le.of_eq rfl) ?_ | refine EnvLe.cons (AV.le.undef _) ?_ | refine EnvLe.cons AV.le.unk ?_) (by repeat' first | exact AH.le.refl _ | assumption | (refine AH.le_put ?_ (by first | assumption | exact (AH.blk_put_ne _ _ (by assumption)).trans (by assumption) | exact AH.none_put (by assumption) | exact AH.none_put (AH.none_put (by assumption)) | (simp only [AH.blk_setTok, AH.tok_put] at *; first | assumption | exact AH.none_put (by assumption)))) | (refine AH.le_setTok ?_ (by first | assumption | exact (AH.blk_put_ne _ _ (by assumption)).trans (by assumption) | exact AH.none_put (by assumption) | exact AH.none_put (AH.none_put (by assumption)) | (simp only [AH.blk_setTok, AH.tok_put] at *; first | assumption | exact AH.none_put (by assumption)))) | (refine AH.le_putM ?_ (by first | assumption | exact (AH.mp_putM_ne _ _ (by assumption)).trans (by assumption) | (simp only [AH.mp_put, AH.mp_setTok] at *; assumption)))))⟩
  have h5 : i = c.length := by omega
  subst h5
  simp only [F_law_ColoringOrderW, g_law_ColoringOrderW, go_sem, reduceIte, Nat.reduceEqDiff, Nat.reduceAdd, Nat.reduceMul, Nat.reduceSub, reduceCtorEq, Nat.reduceLeDiff, Nat.reduceLT, Int.reduceLT, Int.reduceLE, Int.reduceToNat, Int.reduceAdd, Int.reduceSub, Int.reduceNeg, Int.reduceMul, Int.reduceEq, ← Bool.decide_and, ← Bool.decide_or, ↓tq_n, ↓tq_e, ↓tq_r, ↓bq_n, ↓bq_e, ↓bq_r, ↓rq_n, ↓rq_r, ↓rq_e]
  refine CallG.mk (r_law_colors false G .unk _) ?_
  simp only [F_law_ColoringOrderW, g_law_ColoringOrderW, go_sem, reduceIte, Nat.reduceEqDiff, Nat.reduceAdd, Nat.reduceMul, Nat.reduceSub, reduceCtorEq, Nat.reduceLeDiff, Nat.reduceLT, Int.reduceLT, Int.reduceLE, Int.reduceToNat, Int.reduceAdd, Int.reduceSub, Int.reduceNeg, Int.reduceMul, Int.reduceEq, ← Bool.decide_and, ← Bool.decide_or, ↓tq_n, ↓tq_e, ↓tq_r, ↓bq_n, ↓bq_e, ↓bq_r, ↓rq_n, ↓rq_r, ↓rq_e]
  refine CallG.mk (r_law_colors false c .unk _) ?_
  rw [hgN, hcn]
  simp only [F_law_ColoringOrderW, g_law_ColoringOrderW, go_sem, reduceIte, Nat.reduceEqDiff, Nat.reduceAdd, Nat.reduceMul, Nat.reduceSub, reduceCtorEq, Nat.reduceLeDiff, Nat.reduceLT, Int.reduceLT, Int.reduceLE, Int.reduceToNat, Int.reduceAdd, Int.reduceSub, Int.reduceNeg, Int.reduceMul, Int.reduceEq, ← Bool.decide_and, ← Bool.decide_or, ↓tq_n, ↓tq_e, ↓tq_r, ↓bq_n, ↓bq_e, ↓bq_r, ↓rq_n, ↓rq_r, ↓rq_e]
  exact ret_hb (AH.le_setTok (.refl _) ht) rfl
end Go.Proofs.Yticiimmfjdkimaa
