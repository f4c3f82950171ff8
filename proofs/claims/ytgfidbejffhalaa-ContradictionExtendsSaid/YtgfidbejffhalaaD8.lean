/- Calls of functions of this seat's program: the ways home that the search measures. No condition. -/
import Derived.Test.YtgfidbejffhalaaD7
import Derived.Test.YtgfidbejffhalaaV8
namespace Go.Proofs.Ytgfidbejffhalaa
open Go Go.Abs
set_option linter.unusedSimpArgs false
set_option linter.unusedVariables false
set_option maxRecDepth 20000

theorem r_slices_Index_int (nl : Bool) (e : List Int) (tl : Tail) (v : Int) (h : AH) :
    RCall Try.prog n_slices_Index_int [.sl nl e.length (i64s e) tl, I v] h (I (findI (fun i => decide (v = e.getD i 0)) e.length)) := by
  refine RCall.of hm cF_slices_Index_int (by simp [g_slices_Index_int]) fun hw h' hl => ?_
  have hx := wf_len (hw _ (.head _))
  simp only [F_slices_Index_int, g_slices_Index_int, go_sem, reduceIte, Nat.reduceEqDiff, Nat.reduceAdd, Nat.reduceMul, Nat.reduceSub, reduceCtorEq, Nat.reduceLeDiff, Nat.reduceLT, Int.reduceLT, Int.reduceLE, Int.reduceToNat, Int.reduceAdd, Int.reduceSub, Int.reduceNeg, Int.reduceMul, Int.reduceEq, ← Bool.decide_and, ← Bool.decide_or, ↓tq_n, ↓tq_e, ↓tq_r, ↓bq_n, ↓bq_e, ↓bq_r, ↓rq_n, ↓rq_r, ↓rq_e]
  refine awp_loop (fun i : Nat => [(0, .sl nl e.length (i64s e) tl), (1, I v), (7, I e.length), (8, I i)]) (fun _ => h') (fun i => i ≤ e.length ∧ ∀ j, j < i → (fun i => decide (v = e.getD i 0)) j = false) (fun i => e.length - i) 0 ⟨by omega, by omega⟩ (GStep.forget (by repeat' first | exact EnvLe.nil _ | refine EnvLe.cons (AV.le.of_eq rfl) ?_ | refine EnvLe.cons (AV.le.undef _) ?_ | refine EnvLe.cons AV.le.unk ?_) (by repeat' first | exact AH.le.refl _ | assumption | (refine AH.le_put ?_ (by first | assumption | exact (AH.blk_put_ne _ _ (by assumption)).trans (by assumption) | exact AH.none_put (by assumption) | exact AH.none_put (AH.none_put (by assumption)) | (simp only [AH.blk_setTok, AH.tok_put] at *; first | assumption | exact AH.none_put (by assumption)))) | (refine AH.le_setTok ?_ (by first | assumption | exact (AH.blk_put_ne _ _ (by assumption)).trans (by assumption) | exact AH.none_put (by assumption) | exact AH.none_put (AH.none_put (by assumption)) | (simp only [AH.blk_setTok, AH.tok_put] at *; first | assumption | exact AH.none_put (by assumption)))) | (refine AH.le_putM ?_ (by first | assumption | exact (AH.mp_putM_ne _ _ (by assumption)).trans (by assumption) | (simp only [AH.mp_put, AH.mp_setTok] at *; assumption))))) fun i hi => .of_vg hm ?_
  obtain ⟨h1, h2⟩ := hi
  simp only [F_slices_Index_int, g_slices_Index_int, go_sem, reduceIte, Nat.reduceEqDiff, Nat.reduceAdd, Nat.reduceMul, Nat.reduceSub, reduceCtorEq, Nat.reduceLeDiff, Nat.reduceLT, Int.reduceLT, Int.reduceLE, Int.reduceToNat, Int.reduceAdd, Int.reduceSub, Int.reduceNeg, Int.reduceMul, Int.reduceEq, ← Bool.decide_and, ← Bool.decide_or, ↓tq_n, ↓tq_e, ↓tq_r, ↓bq_n, ↓bq_e, ↓bq_r, ↓rq_n, ↓rq_r, ↓rq_e]
  refine ⟨fun hc => ?_, fun hc => ?_⟩
  · have h3 : i < e.length := by omega
    simp only [i64s_drop h3, F_slices_Index_int, g_slices_Index_int, go_sem, reduceIte, Nat.reduceEqDiff, Nat.reduceAdd, Nat.reduceMul, Nat.reduceSub, reduceCtorEq, Nat.reduceLeDiff, Nat.reduceLT, Int.reduceLT, Int.reduceLE, Int.reduceToNat, Int.reduceAdd, Int.reduceSub, Int.reduceNeg, Int.reduceMul, Int.reduceEq, ← Bool.decide_and, ← Bool.decide_or, ↓tq_n, ↓tq_e, ↓tq_r, ↓bq_n, ↓bq_e, ↓bq_r, ↓rq_n, ↓rq_r, ↓rq_e]
    refine ⟨by omega, fun hp => ?_, fun hp => ?_⟩
    · refine ret_hb (by repeat' first | exact AH.le.refl _ | assumption | (refine AH.le_put ?_ (by first | assumption | exact (AH.blk_put_ne _ _ (by assumption)).trans (by assumption) | exact AH.none_put (by assumption) | exact AH.none_put (AH.none_put (by assumption)) | (simp only [AH.blk_setTok, AH.tok_put] at *; first | assumption | exact AH.none_put (by assumption)))) | (refine AH.le_setTok ?_ (by first | assumption | exact (AH.blk_put_ne _ _ (by assumption)).trans (by assumption) | exact AH.none_put (by assumption) | exact AH.none_put (AH.none_put (by assumption)) | (simp only [AH.blk_setTok, AH.tok_put] at *; first | assumption | exact AH.none_put (by assumption)))) | (refine AH.le_putM ?_ (by first | assumption | exact (AH.mp_putM_ne _ _ (by assumption)).trans (by assumption) | (simp only [AH.mp_put, AH.mp_setTok] at *; assumption)))) ?_
      rw [findI_at (p := fun i => decide (v = e.getD i 0)) (by simpa using hp) h2 h3]
    · exact ⟨by rw [inR64]; omega, i + 1, ⟨by omega, fun j hj => by rcases Nat.lt_succ_iff_lt_or_eq.1 hj with h | rfl; exact of_decide_eq_false (h2 j h); exact hp⟩, by omega, (GStep.forget (by repeat' first | exact EnvLe.nil _ | refine EnvLe.cons (AV.le.of_eq rfl) ?_ | refine EnvLe.cons (AV.le.undef _) ?_ | refine EnvLe.cons AV.le.unk ?_) (by repeat' first | exact AH.le.refl _ | assumption | (refine AH.le_put ?_ (by first | assumption | exact (AH.blk_put_ne _ _ (by assumption)).trans (by assumption) | exact AH.none_put (by assumption) | exact AH.none_put (AH.none_put (by assumption)) | (simp only [AH.blk_setTok, AH.tok_put] at *; first | assumption | exact AH.none_put (by assumption)))) | (refine AH.le_setTok ?_ (by first | assumption | exact (AH.blk_put_ne _ _ (by assumption)).trans (by assumption) | exact AH.none_put (by assumption) | exact AH.none_put (AH.none_put (by assumption)) | (simp only [AH.blk_setTok, AH.tok_put] at *; first | assumption | exact AH.none_put (by assumption)))) | (refine AH.le_putM ?_ (by first | assumption | exact (AH.mp_putM_ne _ _ (by assumption)).trans (by assumption) | (simp only [AH.mp_put, AH.mp_setTok] at *; assumption)))))⟩
  · have h3 : i = e.length := by omega
    subst h3
    refine ret_hb (by repeat' first | exact AH.le.refl _ | assumption | (refine AH.le_put ?_ (by first | assumption | exact (AH.blk_put_ne _ _ (by assumption)).trans (by assumption) | exact AH.none_put (by assumption) | exact AH.none_put (AH.none_put (by assumption)) | (simp only [AH.blk_setTok, AH.tok_put] at *; first | assumption | exact AH.none_put (by assumption)))) | (refine AH.le_setTok ?_ (by first | assumption | exact (AH.blk_put_ne _ _ (by assumption)).trans (by assumption) | exact AH.none_put (by assumption) | exact AH.none_put (AH.none_put (by assumption)) | (simp only [AH.blk_setTok, AH.tok_put] at *; first | assumption | exact AH.none_put (by assumption)))) | (refine AH.le_putM ?_ (by first | assumption | exact (AH.mp_putM_ne _ _ (by assumption)).trans (by assumption) | (simp only [AH.mp_put, AH.mp_setTok] at *; assumption)))) ?_
    rw [findI_neg h2]
theorem r_slices_Contains_int (nl : Bool) (e : List Int) (tl : Tail) (v : Int) (h : AH) : RCall Try.prog n_slices_Contains_int [.sl nl e.length (i64s e) tl, I v] h (.bool (decide (v ∈ e))) := by
  refine RCall.of hm cF_slices_Contains_int (by simp [g_slices_Contains_int]) fun hw h' hl => ?_
  simp only [F_slices_Contains_int, g_slices_Contains_int, go_sem, reduceIte, Nat.reduceEqDiff, Nat.reduceAdd, Nat.reduceMul, Nat.reduceSub, reduceCtorEq, Nat.reduceLeDiff, Nat.reduceLT, Int.reduceLT, Int.reduceLE, Int.reduceToNat, Int.reduceAdd, Int.reduceSub, Int.reduceNeg, Int.reduceMul, Int.reduceEq, ← Bool.decide_and, ← Bool.decide_or, ↓tq_n, ↓tq_e, ↓tq_r, ↓bq_n, ↓bq_e, ↓bq_r, ↓rq_n, ↓rq_r, ↓rq_e]
  refine CallG.mk (r_slices_Index_int nl e tl v h') ?_
  simp only [F_slices_Contains_int, g_slices_Contains_int, go_sem, reduceIte, Nat.reduceEqDiff, Nat.reduceAdd, Nat.reduceMul, Nat.reduceSub, reduceCtorEq, Nat.reduceLeDiff, Nat.reduceLT, Int.reduceLT, Int.reduceLE, Int.reduceToNat, Int.reduceAdd, Int.reduceSub, Int.reduceNeg, Int.reduceMul, Int.reduceEq, ← Bool.decide_and, ← Bool.decide_or, ↓tq_n, ↓tq_e, ↓tq_r, ↓bq_n, ↓bq_e, ↓bq_r, ↓rq_n, ↓rq_r, ↓rq_e]
  refine ret_hb (by repeat' first | exact AH.le.refl _ | assumption | (refine AH.le_put ?_ (by first | assumption | exact (AH.blk_put_ne _ _ (by assumption)).trans (by assumption) | exact AH.none_put (by assumption) | exact AH.none_put (AH.none_put (by assumption)) | (simp only [AH.blk_setTok, AH.tok_put] at *; first | assumption | exact AH.none_put (by assumption)))) | (refine AH.le_setTok ?_ (by first | assumption | exact (AH.blk_put_ne _ _ (by assumption)).trans (by assumption) | exact AH.none_put (by assumption) | exact AH.none_put (AH.none_put (by assumption)) | (simp only [AH.blk_setTok, AH.tok_put] at *; first | assumption | exact AH.none_put (by assumption)))) | (refine AH.le_putM ?_ (by first | assumption | exact (AH.mp_putM_ne _ _ (by assumption)).trans (by assumption) | (simp only [AH.mp_put, AH.mp_setTok] at *; assumption)))) ?_
  rw [findI_mem]

/-- The table of ways home. -/
noncomputable def hmL (n : Nat) (a : List (Int × Int)) (v : Nat) : List Int := (List.range n).map fun x => (hmN a v x : Int)
theorem hmL_len (n : Nat) (a : List (Int × Int)) (v : Nat) : (hmL n a v).length = n := by simp [hmL]
theorem hmL_get {n : Nat} {a : List (Int × Int)} {v x : Nat} (hx : x < n) : (hmL n a v).getD x 0 = (hmN a v x : Int) := by simp [hmL, List.getD, hx]
theorem hmI_len {n : Nat} {a : List (Int × Int)} {v s i : Nat} {R d X : List Int} (h : HmI n a v s i R d X) : d.length = n := h.1
theorem s_measure (n : Nat) (n1 : Bool) (a : List (Int × Int)) (u1 : Tail) (he : Ev n a) (v : Nat) (hv : v < n) (bs : Nat) (hh x bv : AV) (h : AH) (hb : h.blk bs = some [I n, .sl n1 a.length (prs a) u1, hh, x, bv]) :
    ACalls Try.prog n_contradiction_search_measure [.ptr bs 0, I v] h (fun r h'' => ∃ bh, h.blk bh = none ∧ r = .tup [] ∧ h'' = (h.put bs [I n, .sl n1 a.length (prs a) u1, .msl bh 0 n (some n), x, bv]).put bh (i64s (hmL n a v))) := by
  refine ACalls.of hm cF_contradiction_search_measure (by simp [g_contradiction_search_measure]) fun hw => ?_
  have hn : n ≤ 24 := by have := he.2.1; omega
  have ha := he.2.2.1
  have hfn : ∀ k, k < a.length → fr a k < n := fun k hk => (ev_k he hk).2.1
  simp only [hb, F_contradiction_search_measure, g_contradiction_search_measure, go_sem, reduceIte, Nat.reduceEqDiff, Nat.reduceAdd, Nat.reduceMul, Nat.reduceSub, reduceCtorEq, Nat.reduceLeDiff, Nat.reduceLT, Int.reduceLT, Int.reduceLE, Int.reduceToNat, Int.reduceAdd, Int.reduceSub, Int.reduceNeg, Int.reduceMul, Int.reduceEq, ← Bool.decide_and, ← Bool.decide_or, ↓tq_n, ↓tq_e, ↓tq_r, ↓bq_n, ↓bq_e, ↓bq_r, ↓rq_n, ↓rq_r, ↓rq_e]
  refine MakeG.mk (by omega) (Int.le_refl _) (by omega) (by omega) fun bh hbh => ?_
  rw [flat_rep]
  have hne : bs ≠ bh := fun hh => by subst hh; rw [hbh] at hb; cases hb
  have hrd : ∀ (g : AH) X, (g.put bh X).blk bs = g.blk bs := fun g X => AH.blk_put_ne _ _ hne
  simp only [hrd, hb, F_contradiction_search_measure, g_contradiction_search_measure, go_sem, reduceIte, Nat.reduceEqDiff, Nat.reduceAdd, Nat.reduceMul, Nat.reduceSub, reduceCtorEq, Nat.reduceLeDiff, Nat.reduceLT, Int.reduceLT, Int.reduceLE, Int.reduceToNat, Int.reduceAdd, Int.reduceSub, Int.reduceNeg, Int.reduceMul, Int.reduceEq, ← Bool.decide_and, ← Bool.decide_or, ↓tq_n, ↓tq_e, ↓tq_r, ↓bq_n, ↓bq_e, ↓bq_r, ↓rq_n, ↓rq_r, ↓rq_e]
  rw [AH.put_comm _ _ _ (fun hh => hne hh.symm)]
  refine awp_loop (α := Nat × List Int × List Int) (fun y => [(0, .ptr bs 0), (1, I v), (4, gl (i64s y.2.1) y.2.1.length .unk), (5, I y.1)]) (fun y => (h.put bs [I n, .sl n1 a.length (prs a) u1, .msl bh 0 n (some n), x, bv]).put bh (i64s y.2.2)) (fun y => 1 ≤ y.1 ∧ y.1 ≤ n + 1 ∧ Rch a v y.1 y.2.1 ∧ HmT n a v y.1 y.2.2 ∧ y.2.1.length ≤ 40) (fun y => n + 3 - y.1) (1, [(v : Int)], List.replicate n 0) ⟨Nat.le_refl _, by omega, rch_one a v, hmT_one n a v, by simp⟩ ?_ fun y hy => .of_vg hm ?_
  · simp only [i64s, List.map_replicate]
    refine GStep.forget ?_ (.refl _)
    exact .cons (AV.le.of_eq rfl) (.cons (AV.le.of_eq rfl) (.cons AV.le.unk (.cons (AV.le.of_eq rfl) (.nil _))))
  obtain ⟨s, R, d⟩ := y
  obtain ⟨h1, h2, h3, h4, h4'⟩ := hy
  simp only at h1 h2 h3 h4 h4' ⊢
  rcases Nat.eq_zero_or_pos R.length with hR0 | hR0
  · have hRe : R = [] := List.eq_nil_of_length_eq_zero hR0
    subst hRe
    have hz : ¬ (0 : Int) < ((0 : Nat) : Int) := by omega
    simp only [gl, hz, List.length_nil, F_contradiction_search_measure, g_contradiction_search_measure, go_sem, reduceIte, Nat.reduceEqDiff, Nat.reduceAdd, Nat.reduceMul, Nat.reduceSub, reduceCtorEq, Nat.reduceLeDiff, Nat.reduceLT, Int.reduceLT, Int.reduceLE, Int.reduceToNat, Int.reduceAdd, Int.reduceSub, Int.reduceNeg, Int.reduceMul, Int.reduceEq, ← Bool.decide_and, ← Bool.decide_or, ↓tq_n, ↓tq_e, ↓tq_r, ↓bq_n, ↓bq_e, ↓bq_r, ↓rq_n, ↓rq_r, ↓rq_e]
    refine ⟨_, _, RGh.refl _ _, bh, hbh, rfl, ?_⟩
    have : d = hmL n a v := getD_gext 0 (by rw [h4.1, hmL_len]) fun j hj => by
      rw [h4.1] at hj
      rw [hmT_end h1 h3 h4 rfl hj, hmL_get hj]
    rw [this]
  have hRne : R ≠ [] := fun hh => by rw [hh] at hR0; simp at hR0
  have hsn := rch_le hfn hv h3 hRne
  have hRc : (0 : Int) < (R.length : Int) := by omega
  simp only [gl_pos hR0, hRc, hrd, F_contradiction_search_measure, g_contradiction_search_measure, go_sem, reduceIte, Nat.reduceEqDiff, Nat.reduceAdd, Nat.reduceMul, Nat.reduceSub, reduceCtorEq, Nat.reduceLeDiff, Nat.reduceLT, Int.reduceLT, Int.reduceLE, Int.reduceToNat, Int.reduceAdd, Int.reduceSub, Int.reduceNeg, Int.reduceMul, Int.reduceEq, ← Bool.decide_and, ← Bool.decide_or, ↓tq_n, ↓tq_e, ↓tq_r, ↓bq_n, ↓bq_e, ↓bq_r, ↓rq_n, ↓rq_r, ↓rq_e]
  refine awp_tok 6 1 (nl := true) (n := 0) (cs := []) rfl fun t ht => ?_
  refine awp_loop (α := Nat × List Int × List Int) (fun y => [(0, .ptr bs 0), (1, I v), (4, .sl false R.length (i64s R) .unk), (5, I s), (6, gl (i64s y.2.2) y.2.2.length (.tok t)), (27, .sl n1 a.length (prs a) u1), (28, I a.length), (29, I y.1)]) (fun y => ((h.setTok t y.2.2.length 1).put bs [I n, .sl n1 a.length (prs a) u1, .msl bh 0 n (some n), x, bv]).put bh (i64s y.2.1)) (fun y => y.1 ≤ a.length ∧ HmI n a v s y.1 R y.2.1 y.2.2 ∧ y.2.2.length ≤ y.1) (fun y => a.length - y.1) (0, d, []) ⟨Nat.zero_le _, hmI_zero h1 h4, Nat.le_refl _⟩ (GStep.forget (by repeat' first | exact EnvLe.nil _ | refine EnvLe.cons (AV.le.of_eq rfl) ?_ | refine EnvLe.cons (AV.le.undef _) ?_ | refine EnvLe.cons AV.le.unk ?_) (by repeat' first | exact AH.le.refl _ | assumption | (refine AH.le_put ?_ (by first | assumption | exact (AH.blk_put_ne _ _ (by assumption)).trans (by assumption) | exact AH.none_put (by assumption) | exact AH.none_put (AH.none_put (by assumption)) | (simp only [AH.blk_setTok, AH.tok_put] at *; first | assumption | exact AH.none_put (by assumption)))) | (refine AH.le_setTok ?_ (by first | assumption | exact (AH.blk_put_ne _ _ (by assumption)).trans (by assumption) | exact AH.none_put (by assumption) | exact AH.none_put (AH.none_put (by assumption)) | (simp only [AH.blk_setTok, AH.tok_put] at *; first | assumption | exact AH.none_put (by assumption)))) | (refine AH.le_putM ?_ (by first | assumption | exact (AH.mp_putM_ne _ _ (by assumption)).trans (by assumption) | (simp only [AH.mp_put, AH.mp_setTok] at *; assumption))))) fun y hy => .of_vg hm ?_
  obtain ⟨i, d, X⟩ := y
  obtain ⟨h5, h6, h7⟩ := hy
  simp only at h5 h6 h7 ⊢
  by_cases h8 : i < a.length
  case neg =>
    have h8 : i = a.length := by omega
    subst h8
    obtain ⟨k1, k2⟩ := hmI_end h1 hfn hv h3 h6
    simp only [F_contradiction_search_measure, g_contradiction_search_measure, go_sem, reduceIte, Nat.reduceEqDiff, Nat.reduceAdd, Nat.reduceMul, Nat.reduceSub, reduceCtorEq, Nat.reduceLeDiff, Nat.reduceLT, Int.reduceLT, Int.reduceLE, Int.reduceToNat, Int.reduceAdd, Int.reduceSub, Int.reduceNeg, Int.reduceMul, Int.reduceEq, ← Bool.decide_and, ← Bool.decide_or, ↓tq_n, ↓tq_e, ↓tq_r, ↓bq_n, ↓bq_e, ↓bq_r, ↓rq_n, ↓rq_r, ↓rq_e]
    refine ⟨by rw [inR64]; omega, (s + 1, X, d), ⟨by simp only; omega, by simp only; omega, k2, k1, by simp only; omega⟩, by simp only; omega, ?_⟩
    refine GStep.forget ?_ ?_
    · exact .cons (AV.le.of_eq rfl) (.cons (AV.le.of_eq rfl) (.cons .glU (.cons (AV.le.of_eq rfl) (.nil _))))
    · exact AH.le_put2 (AH.le_put2 (AH.le_setTok (.refl _) (by exact ht)))
  have hcj : (i : Int) < (a.length : Int) := by omega
  obtain ⟨e1, e2, e3, e4⟩ := ev_k he h8
  have hdl := h6.1
  have f1 : fr a i < d.length := by omega
  have hfi0 : (0 : Int) ≤ (fr a i : Int) := by omega
  have hfin : (fr a i : Int) < (n : Int) := by omega
  by_cases c1 : v ≤ fr a i
  case neg =>
    have c1' : ¬ (v : Int) ≤ (fr a i : Int) := by omega
    simp only [hcj, prs_drop h8, e1, c1', F_contradiction_search_measure, g_contradiction_search_measure, go_sem, reduceIte, Nat.reduceEqDiff, Nat.reduceAdd, Nat.reduceMul, Nat.reduceSub, reduceCtorEq, Nat.reduceLeDiff, Nat.reduceLT, Int.reduceLT, Int.reduceLE, Int.reduceToNat, Int.reduceAdd, Int.reduceSub, Int.reduceNeg, Int.reduceMul, Int.reduceEq, ← Bool.decide_and, ← Bool.decide_or, ↓tq_n, ↓tq_e, ↓tq_r, ↓bq_n, ↓bq_e, ↓bq_r, ↓rq_n, ↓rq_r, ↓rq_e]
    exact ⟨by rw [inR64]; omega, (i + 1, d, X), ⟨by simp only; omega, hmI_no h6 (fun hh => c1 hh.1), by simp only; omega⟩, by simp only; omega, (GStep.forget (by repeat' first | exact EnvLe.nil _ | refine EnvLe.cons (AV.le.of_eq rfl) ?_ | refine EnvLe.cons (AV.le.undef _) ?_ | refine EnvLe.cons AV.le.unk ?_) (by repeat' first | exact AH.le.refl _ | assumption | (refine AH.le_put ?_ (by first | assumption | exact (AH.blk_put_ne _ _ (by assumption)).trans (by assumption) | exact AH.none_put (by assumption) | exact AH.none_put (AH.none_put (by assumption)) | (simp only [AH.blk_setTok, AH.tok_put] at *; first | assumption | exact AH.none_put (by assumption)))) | (refine AH.le_setTok ?_ (by first | assumption | exact (AH.blk_put_ne _ _ (by assumption)).trans (by assumption) | exact AH.none_put (by assumption) | exact AH.none_put (AH.none_put (by assumption)) | (simp only [AH.blk_setTok, AH.tok_put] at *; first | assumption | exact AH.none_put (by assumption)))) | (refine AH.le_putM ?_ (by first | assumption | exact (AH.mp_putM_ne _ _ (by assumption)).trans (by assumption) | (simp only [AH.mp_put, AH.mp_setTok] at *; assumption)))))⟩
  have c1' : (v : Int) ≤ (fr a i : Int) := by omega
  by_cases c2 : d.getD (fr a i) 0 = 0
  case neg =>
    simp only [hcj, prs_drop h8, e1, c1', hrd, hfi0, hfin, i64s_drop f1, c2, F_contradiction_search_measure, g_contradiction_search_measure, go_sem, reduceIte, Nat.reduceEqDiff, Nat.reduceAdd, Nat.reduceMul, Nat.reduceSub, reduceCtorEq, Nat.reduceLeDiff, Nat.reduceLT, Int.reduceLT, Int.reduceLE, Int.reduceToNat, Int.reduceAdd, Int.reduceSub, Int.reduceNeg, Int.reduceMul, Int.reduceEq, ← Bool.decide_and, ← Bool.decide_or, ↓tq_n, ↓tq_e, ↓tq_r, ↓bq_n, ↓bq_e, ↓bq_r, ↓rq_n, ↓rq_r, ↓rq_e]
    exact ⟨by rw [inR64]; omega, (i + 1, d, X), ⟨by simp only; omega, hmI_no h6 (fun hh => c2 hh.2.1), by simp only; omega⟩, by simp only; omega, (GStep.forget (by repeat' first | exact EnvLe.nil _ | refine EnvLe.cons (AV.le.of_eq rfl) ?_ | refine EnvLe.cons (AV.le.undef _) ?_ | refine EnvLe.cons AV.le.unk ?_) (by repeat' first | exact AH.le.refl _ | assumption | (refine AH.le_put ?_ (by first | assumption | exact (AH.blk_put_ne _ _ (by assumption)).trans (by assumption) | exact AH.none_put (by assumption) | exact AH.none_put (AH.none_put (by assumption)) | (simp only [AH.blk_setTok, AH.tok_put] at *; first | assumption | exact AH.none_put (by assumption)))) | (refine AH.le_setTok ?_ (by first | assumption | exact (AH.blk_put_ne _ _ (by assumption)).trans (by assumption) | exact AH.none_put (by assumption) | exact AH.none_put (AH.none_put (by assumption)) | (simp only [AH.blk_setTok, AH.tok_put] at *; first | assumption | exact AH.none_put (by assumption)))) | (refine AH.le_putM ?_ (by first | assumption | exact (AH.mp_putM_ne _ _ (by assumption)).trans (by assumption) | (simp only [AH.mp_put, AH.mp_setTok] at *; assumption)))))⟩
  simp only [hcj, prs_drop h8, e1, c1', hrd, hfi0, hfin, i64s_drop f1, c2, F_contradiction_search_measure, g_contradiction_search_measure, go_sem, reduceIte, Nat.reduceEqDiff, Nat.reduceAdd, Nat.reduceMul, Nat.reduceSub, reduceCtorEq, Nat.reduceLeDiff, Nat.reduceLT, Int.reduceLT, Int.reduceLE, Int.reduceToNat, Int.reduceAdd, Int.reduceSub, Int.reduceNeg, Int.reduceMul, Int.reduceEq, ← Bool.decide_and, ← Bool.decide_or, ↓tq_n, ↓tq_e, ↓tq_r, ↓bq_n, ↓bq_e, ↓bq_r, ↓rq_n, ↓rq_r, ↓rq_e]
  refine CallG.mk (r_slices_Contains_int false R .unk (tt a i) _) ?_
  by_cases c3 : (tt a i : Int) ∈ R
  case neg =>
    simp only [decide_eq_false c3, F_contradiction_search_measure, g_contradiction_search_measure, go_sem, reduceIte, Nat.reduceEqDiff, Nat.reduceAdd, Nat.reduceMul, Nat.reduceSub, reduceCtorEq, Nat.reduceLeDiff, Nat.reduceLT, Int.reduceLT, Int.reduceLE, Int.reduceToNat, Int.reduceAdd, Int.reduceSub, Int.reduceNeg, Int.reduceMul, Int.reduceEq, ← Bool.decide_and, ← Bool.decide_or, ↓tq_n, ↓tq_e, ↓tq_r, ↓bq_n, ↓bq_e, ↓bq_r, ↓rq_n, ↓rq_r, ↓rq_e]
    exact ⟨by rw [inR64]; omega, (i + 1, d, X), ⟨by simp only; omega, hmI_no h6 (fun hh => c3 hh.2.2), by simp only; omega⟩, by simp only; omega, (GStep.forget (by repeat' first | exact EnvLe.nil _ | refine EnvLe.cons (AV.le.of_eq rfl) ?_ | refine EnvLe.cons (AV.le.undef _) ?_ | refine EnvLe.cons AV.le.unk ?_) (by repeat' first | exact AH.le.refl _ | assumption | (refine AH.le_put ?_ (by first | assumption | exact (AH.blk_put_ne _ _ (by assumption)).trans (by assumption) | exact AH.none_put (by assumption) | exact AH.none_put (AH.none_put (by assumption)) | (simp only [AH.blk_setTok, AH.tok_put] at *; first | assumption | exact AH.none_put (by assumption)))) | (refine AH.le_setTok ?_ (by first | assumption | exact (AH.blk_put_ne _ _ (by assumption)).trans (by assumption) | exact AH.none_put (by assumption) | exact AH.none_put (AH.none_put (by assumption)) | (simp only [AH.blk_setTok, AH.tok_put] at *; first | assumption | exact AH.none_put (by assumption)))) | (refine AH.le_putM ?_ (by first | assumption | exact (AH.mp_putM_ne _ _ (by assumption)).trans (by assumption) | (simp only [AH.mp_put, AH.mp_setTok] at *; assumption)))))⟩
  have hys := hmI_yes h1 h3 h6 c1 c2 c3 e2 h8
  by_cases c4 : fr a i = v
  · have c4' : (fr a i : Int) = (v : Int) := by rw [c4]
    rw [if_pos c4, c4] at hys
    simp only [decide_eq_true c3, hrd, hfi0, hfin, c4', F_contradiction_search_measure, g_contradiction_search_measure, go_sem, reduceIte, Nat.reduceEqDiff, Nat.reduceAdd, Nat.reduceMul, Nat.reduceSub, reduceCtorEq, Nat.reduceLeDiff, Nat.reduceLT, Int.reduceLT, Int.reduceLE, Int.reduceToNat, Int.reduceAdd, Int.reduceSub, Int.reduceNeg, Int.reduceMul, Int.reduceEq, ← Bool.decide_and, ← Bool.decide_or, ↓tq_n, ↓tq_e, ↓tq_r, ↓bq_n, ↓bq_e, ↓bq_r, ↓rq_n, ↓rq_r, ↓rq_e]
    refine ⟨by omega, by rw [i64s_len]; omega, by rw [inR64]; omega, (i + 1, d.set v (s : Int), X), ⟨by simp only; omega, hys, by simp only; omega⟩, by simp only; omega, ?_⟩
    rw [i64s_set]
    exact (GStep.forget (by repeat' first | exact EnvLe.nil _ | refine EnvLe.cons (AV.le.of_eq rfl) ?_ | refine EnvLe.cons (AV.le.undef _) ?_ | refine EnvLe.cons AV.le.unk ?_) (by repeat' first | exact AH.le.refl _ | assumption | (refine AH.le_put ?_ (by first | assumption | exact (AH.blk_put_ne _ _ (by assumption)).trans (by assumption) | exact AH.none_put (by assumption) | exact AH.none_put (AH.none_put (by assumption)) | (simp only [AH.blk_setTok, AH.tok_put] at *; first | assumption | exact AH.none_put (by assumption)))) | (refine AH.le_setTok ?_ (by first | assumption | exact (AH.blk_put_ne _ _ (by assumption)).trans (by assumption) | exact AH.none_put (by assumption) | exact AH.none_put (AH.none_put (by assumption)) | (simp only [AH.blk_setTok, AH.tok_put] at *; first | assumption | exact AH.none_put (by assumption)))) | (refine AH.le_putM ?_ (by first | assumption | exact (AH.mp_putM_ne _ _ (by assumption)).trans (by assumption) | (simp only [AH.mp_put, AH.mp_setTok] at *; assumption)))))
  · have c4' : ¬ (fr a i : Int) = (v : Int) := by omega
    rw [if_neg c4] at hys
    simp only [decide_eq_true c3, hrd, hfi0, hfin, c4', F_contradiction_search_measure, g_contradiction_search_measure, go_sem, reduceIte, Nat.reduceEqDiff, Nat.reduceAdd, Nat.reduceMul, Nat.reduceSub, reduceCtorEq, Nat.reduceLeDiff, Nat.reduceLT, Int.reduceLT, Int.reduceLE, Int.reduceToNat, Int.reduceAdd, Int.reduceSub, Int.reduceNeg, Int.reduceMul, Int.reduceEq, ← Bool.decide_and, ← Bool.decide_or, ↓tq_n, ↓tq_e, ↓tq_r, ↓bq_n, ↓bq_e, ↓bq_r, ↓rq_n, ↓rq_r, ↓rq_e]
    refine ⟨by rw [i64s_len]; omega, by rw [i64s_len], by omega, by omega, by rw [inR64]; omega, (i + 1, d.set (fr a i) (s : Int), X ++ [(fr a i : Int)]), ⟨by simp only; omega, hys, by simp; omega⟩, by simp only; omega, ?_⟩
    rw [i64s_set, i64s_append, List.length_append]
    exact (GStep.forget (by repeat' first | exact EnvLe.nil _ | refine EnvLe.cons (AV.le.of_eq rfl) ?_ | refine EnvLe.cons (AV.le.undef _) ?_ | refine EnvLe.cons AV.le.unk ?_) (by repeat' first | exact AH.le.refl _ | assumption | (refine AH.le_put ?_ (by first | assumption | exact (AH.blk_put_ne _ _ (by assumption)).trans (by assumption) | exact AH.none_put (by assumption) | exact AH.none_put (AH.none_put (by assumption)) | (simp only [AH.blk_setTok, AH.tok_put] at *; first | assumption | exact AH.none_put (by assumption)))) | (refine AH.le_setTok ?_ (by first | assumption | exact (AH.blk_put_ne _ _ (by assumption)).trans (by assumption) | exact AH.none_put (by assumption) | exact AH.none_put (AH.none_put (by assumption)) | (simp only [AH.blk_setTok, AH.tok_put] at *; first | assumption | exact AH.none_put (by assumption)))) | (refine AH.le_putM ?_ (by first | assumption | exact (AH.mp_putM_ne _ _ (by assumption)).trans (by assumption) | (simp only [AH.mp_put, AH.mp_setTok] at *; assumption)))))
end Go.Proofs.Ytgfidbejffhalaa
