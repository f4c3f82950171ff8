/- Calls of functions of this seat's program: the ways home that the search measures. No condition. -/
import Derived.Test.YtemfmnjhhdeedaaD6
import Derived.Test.YtemfmnjhhdeedaaV8
import Derived.Test.YtemfmnjhhdeedaaG3
namespace Go.Proofs.Ytemfmnjhhdeedaa
open Go Go.Abs
set_option linter.unusedSimpArgs false
set_option linter.unusedVariables false
set_option maxRecDepth 20000

theorem r_slices_Index_int (nl : Bool) (e : List Int) (tl : Tail) (v : Int) (h : AH) :
    RCall Try.prog n_slices_Index_int [.sl nl e.length (i64s e) tl, I v] h (I (findI (fun i => decide (v = e.getD i 0)) e.length)) := by
  refine RCall.of hm cF_slices_Index_int (by simp [g_slices_Index_int]) fun hw h' hl => ?_
  have hx := wf_len (hw _ (.head _))
  simp only [F_slices_Index_int, g_slices_Index_int, go_sem, reduceIte, Nat.reduceEqDiff, Nat.reduceAdd, Nat.reduceMul, Nat.reduceSub, reduceCtorEq, Nat.reduceLeDiff, Nat.reduceLT, Int.reduceLT, Int.reduceLE, Int.reduceToNat, Int.reduceAdd, Int.reduceSub, Int.reduceNeg, Int.reduceMul, Int.reduceEq, ← Bool.decide_and, ← Bool.decide_or, ↓tq_n, ↓tq_e, ↓tq_r, ↓bq_n, ↓bq_e, ↓bq_r, ↓rq_n, ↓rq_r, ↓rq_e]
  refine awp_loop (fun i : Nat => [(0, .sl nl e.length (i64s e) tl), (1, I v), (7, I e.length), (8, I i)]) (fun _ => h') (fun i => i ≤ e.length ∧ ∀ j, j < i → (fun i => decide (v = e.getD i 0)) j = false) (fun i => e.length - i) 0 ⟨by omega, by omega⟩ (GStep.forget (by repeat' first | exact EnvLe.nil _ | refine EnvLe.cons (AV.le.of_eq rfl) ?_ | refine EnvLe.cons (AV.le.undef _) ?_ | refine EnvLe.cons AV.le.unk ?_) (by repeat' first | exact AH.le.refl _ | assumption | (refine AH.le_put ?_ (by first | assumption | exact (AH.blk_put_ne _ _ (by assumption)).trans (by assumption) | exact AH.none_put (by assumption) | exact AH.none_put (AH.none_put (by assumption)) | (simp only [AH.blk_setTok, AH.tok_put] at *; first | assumption | exact AH.none_put (by assumption)))) | (refine AH.le_setTok ?_ (by first | assumption | exact (AH.blk_put_ne _ _ (by assumption)).trans (by assumption) | exact AH.none_put (by assumption) | exact AH.none_put (AH.none_put (by assumption)) | (simp only [AH.blk_setTok, AH.tok_put] at *; first | assumption | exact AH.none_put (by assumption)))) | (refine AH.le_putM ?_ (by first | assumption | exact (AH.mp_putM_ne _ _ (by assumption)).trans (by assumption) | (simp only [AH.mp_put, AH.mp_setTok] at *; assumption))))) fun i hi => .of_vg hm ?_
  obtain ⟨h1, h2⟩ := hi
  simp only [F_slices_Index_int, g_slices_Index_int, go_sem, reduceIte, Nat.reduceEqDiff, Nat.reduceAdd, Nat.reduceMul, Nat.reduceSub, reduceCtorEq, Nat.reduceLeDiff, Nat.reduceLT, Int.reduceLT, Int.reduceLE, Int.reduceToNat, Int.reduceAdd, Int.reduceSub, Int.reduceNeg, Int.reduceMul, Int.reduceEq, ← Bool.decide_and, ← Bool.decide_or, ↓tq_n, ↓tq_e, ↓tq_r, ↓bq_n, ↓bq_e, ↓bq_r, ↓rq_n, ↓rq_r, ↓rq_e]
  refine ⟨fun hc => ?_, fun hc => ?_⟩
  · have h3 : i < e.length := by omega
    simp only [i64s_drop h3, F_slices_Index_int, g_slices_Index_int, go_sem, reduceIte, Nat.reduceEqDiff, Nat.reduceAdd, Nat.reduceMul, Nat.reduceSub, reduceCtorEq, Nat.reduceLeDiff, Nat.reduceLT, Int.reduceLT, Int.reduceLE, Int.reduceToNat, Int.reduceAdd, Int.reduceSub, Int.reduceNeg, Int.reduceMul, Int.reduceEq, ← Bool.decide_and, ← Bool.decide_or, ↓tq_n, ↓tq_e, ↓tq_r, ↓bq_n, ↓bq_e, ↓bq_r, ↓rq_n, ↓rq_r, ↓rq_e]
    refine ⟨by omega, fun hp => ?_, fun hp => ?_⟩
    · refine ret_hb (by repeat' first | exact AH.le.refl _ | assumption | (refine AH.le_put ?_ (by first | assumption | exact (AH.blk_put_ne _ _ (by assumption)).trans (by assumption) | exact AH.none_put (by assumption) | exact AH.none_put (AH.none_put (by assumption)) | (simp only [AH.blk_setTok, AH.tok_put] at *; first | assumption | exact AH.none_put (by assumption)))) | (refine AH.le_setTok ?_ (by first | assumption | exact (AH.blk_put_ne _ _ (by assumption)).trans (by assumption) | exact AH.none_put (by assumption) | exact AH.none_put (AH.none_put (by assumption)) | (simp only [AH.blk_setTok, AH.tok_put] at *; first | assumption | exact AH.none_put (by assumption)))) | (refine AH.le_putM ?_ (by first | assumption | exact (AH.mp_putM_ne _ _ (by assumption)).trans (by assumption) | (simp only [AH.mp_put, AH.mp_setTok] at *; assumption)))) ?_
      rw [findI_at (p := fun i => decide (v = e.getD i 0)) (by simpa using hp) h2 h3]
    · exact ⟨by rw [inR64]; omega, i + 1, ⟨by omega, fun j hj => by rcases Nat.lt_succ_iff_lt_or_eq.1 hj with h | rfl; exact of_decide_eq_false (h2 j h); exact hp⟩, by omega, (GStep.forget (by repeat' first | exact EnvLe.nil _ | refine EnvLe.cons (AV.le.of_eq rfl) ?_ | refine EnvLe.cons (AV.le.undef _) ?_ | refine EnvLe.cons AV.le.unk ?_) (by repeat' first | exact AH.le.refl _ | assumption | (refine AH.le_put ?_ (by first | assumption | exact (AH.blk_put_ne _ _ (by assumption)).trans (by assumption) | exact AH.none_put (by assumption) | exact AH.none_put (AH.none_put (by assumption)) | (simp only [AH.blk_setTok, AH.tok_put] at *; first | assumption | exact AH.none_put (by assumption)))) | (refine AH.le_setTok ?_ (by first | assumption | exact (AH.blk_put_ne _ _ (by assumption)).trans (by assumption) | exact AH.none_put (by assumption) | exact AH.none_put (AH.none_put (by assumption)) | (simp only [AH.blk_setTok, AH.tok_put] at *; first | assumption | exact AH.none_put (by assumption)))) | (refine AH.le_putM ?_ (by first | assumption | exact (AH.mp_putM_ne _ _ (by assumption)).trans (by assumption) | (simp only [AH.mp_put, AH.mp_setTok] at *; assumption)))))⟩
  · have h3 : i = e.length := by omega
    subst h3
    refine ret_hb (by repeat' first | exact AH.le.refl _ | assumption | (refine AH.le_put ?_ (by first | assumption | exact (AH.blk_put_ne _ _ (by assumption)).trans (by assumption) | exact AH.none_put (by assumption) | exact AH.none_put (AH.none_put (by assumption)) | (simp only [AH.blk_setTok, AH.tok_put] at *; first | assumption | exact AH.none_put (by assumption)))) | (refine AH.le_setTok ?_ (by first | assumption | exact (AH.blk_put_ne _ _ (by assumption)).trans (by assumption) | exact AH.none_put (by assumption) | exact AH.none_put (AH.none_put (by assumption)) | (simp only [AH.blk_setTok, AH.tok_put] at *; first | assumption | exact AH.none_put (by assumption)))) | (refine AH.le_putM ?_ (by first | assumption | exact (AH.mp_putM_ne _ _ (by assumption)).trans (by assumption) | (simp only [AH.mp_put, AH.mp_setTok] at *; assumption)))) ?_
    rw [findI_neg h2]
theorem r_slices_Contains_int (nl : Bool) (e : List Int) (tl : Tail) (v : Int) (h : AH) : RCall Try.prog n_slices_Contains_int [.sl nl e.length (i64s e) tl, I v] h (.bool (decide (v ∈ e))) := by
  refine RCall.of hm cF_slices_Contains_int (by simp [g_slices_Contains_int]) fun hw h' hl => ?_
  simp only [F_slices_Contains_int, g_slices_Contains_int, go_sem, reduceIte, Nat.reduceEqDiff, Nat.reduceAdd, Nat.reduceMul, Nat.reduceSub, reduceCtorEq, Nat.reduceLeDiff, Nat.reduceLT, Int.reduceLT, Int.reduceLE, Int.reduceToNat, Int.reduceAdd, Int.reduceSub, Int.reduceNeg, Int.reduceMul, Int.reduceEq, ← Bool.decide_and, ← Bool.decide_or, ↓tq_n, ↓tq_e, ↓tq_r, ↓bq_n, ↓bq_e, ↓bq_r, ↓rq_n, ↓rq_r, ↓rq_e]
  refine CallG.mk (r_slices_Index_int nl e tl v h') ?_
  simp only [F_slices_Contains_int, g_slices_Contains_int, go_sem, reduceIte, Nat.reduceEqDiff, Nat.reduceAdd, Nat.reduceMul, Nat.reduceSub, reduceCtorEq, Nat.reduceLeDiff, Nat.reduceLT, Int.reduceLT, Int.reduceLE, Int.reduceToNat, Int.reduceAdd, Int.reduceSub, Int.reduceNeg, Int.reduceMul, Int.reduceEq, ← Bool.decide_and, ← Bool.decide_or, ↓tq_n, ↓tq_e, ↓tq_r, ↓bq_n, ↓bq_e, ↓bq_r, ↓rq_n, ↓rq_r, ↓rq_e]
  refine ret_hb (by repeat' first | exact AH.le.refl _ | assumption | (refine AH.le_put ?_ (by first | assumption | exact (AH.blk_put_ne _ _ (by assumption)).trans (by assumption) | exact AH.none_put (by assumption) | exact AH.none_put (AH.none_put (by assumption)) | (simp only [AH.blk_setTok, AH.tok_put] at *; first | assumption | exact AH.none_put (by assumption)))) | (refine AH.le_setTok ?_ (by first | assumption | exact (AH.blk_put_ne _ _ (by assumption)).trans (by assumption) | exact AH.none_put (by assumption) | exact AH.none_put (AH.none_put (by assumption)) | (simp only [AH.blk_setTok, AH.tok_put] at *; first | assumption | exact AH.none_put (by assumption)))) | (refine AH.le_putM ?_ (by first | assumption | exact (AH.mp_putM_ne _ _ (by assumption)).trans (by assumption) | (simp only [AH.mp_put, AH.mp_setTok] at *; assumption)))) ?_
  rw [findI_mem]

/-- The table of ways home. -/
noncomputable def hmL (n : Nat) (a : List (Int × Int)) (v : Nat) : List Int := (List.range n).map fun x => (hmN a v x : Int)
theorem hmL_len (n : Nat) (a : List (Int × Int)) (v : Nat) : (hmL n a v).length = n := by simp [hmL]
theorem hmL_get {n : Nat} {a : List (Int × Int)} {v x : Nat} (hx : x < n) : (hmL n a v).getD x 0 = (hmN a v x : Int) := by simp [hmL, List.getD, hx]
theorem hmI_len {n : Nat} {a : List (Int × Int)} {v s i : Nat} {R d X : List Int} (h : HmI n a v s i R d X) : d.length = n := h.1
theorem s_measure (n : Nat) (n1 : Bool) (a : List (Int × Int)) (u1 : Tail) (he : Ev n a) (v : Nat) (hv : v < n) (bs : Nat) (hh x bv : AV) (h : AH) (hb : h.blk bs = some [I n, .sl n1 a.length (prs a) u1, hh, x, bv]) :
    ACalls Try.prog n_contradiction_search_measure [.ptr bs 0, I v] h (fun r h'' => ∃ bh, h.blk bh = none ∧ r = .tup [] ∧ h'' = (h.put bs [I n, .sl n1 a.length (prs a) u1, .msl bh 0 n (some n), x, bv]).put bh (i64s (hmL n a v))) := by
  refine ACalls.of hm cF_contradiction_search_measure (by simp [g_contradiction_search_measure]) fun hw => ?_
  have hn : n ≤ 24 := by have := he.2.1; omega
  have ha := he.2.2.1
  have hfn : ∀ k, k < a.length → fr a k < n := fun k hk => (ev_k he hk).2.1
  simp only [hb, F_contradiction_search_measure, g_contradiction_search_measure, go_sem, reduceIte, Nat.reduceEqDiff, Nat.reduceAdd, Nat.reduceMul, Nat.reduceSub, reduceCtorEq, Nat.reduceLeDiff, Nat.reduceLT, Int.reduceLT, Int.reduceLE, Int.reduceToNat, Int.reduceAdd, Int.reduceSub, Int.reduceNeg, Int.reduceMul, Int.reduceEq, ← Bool.decide_and, ← Bool.decide_or, ↓tq_n, ↓tq_e, ↓tq_r, ↓bq_n, ↓bq_e, ↓bq_r, ↓rq_n, ↓rq_r, ↓rq_e]
  refine MakeG.mk (by omega) (Int.le_refl _) (by omega) (by omega) fun bh hbh => ?_
  rw [flat_rep]
  have hne : bs ≠ bh := fun hh => by subst hh; rw [hbh] at hb; cases hb
  have hrd : ∀ (g : AH) X, (g.put bh X).blk bs = g.blk bs := fun g X => AH.blk_put_ne _ _ hne
  simp only [hrd, hb, F_contradiction_search_measure, g_contradiction_search_measure, go_sem, reduceIte, Nat.reduceEqDiff, Nat.reduceAdd, Nat.reduceMul, Nat.reduceSub, reduceCtorEq, Nat.reduceLeDiff, Nat.reduceLT, Int.reduceLT, Int.reduceLE, Int.reduceToNat, Int.reduceAdd, Int.reduceSub, Int.reduceNeg, Int.reduceMul, Int.reduceEq, ← Bool.decide_and, ← Bool.decide_or, ↓tq_n, ↓tq_e, ↓tq_r, ↓bq_n, ↓bq_e, ↓bq_r, ↓rq_n, ↓rq_r, ↓rq_e]
  rw [AH.put_comm _ _ _ (fun hh => hne hh.symm)]
  refine awp_loop (α := Nat × List Int × List Int) (fun y => [(0, .ptr bs 0), (1, I v), (4, gl (i64s y.2.1) y.2.1.length .unk), (5, I y.1)]) (fun y => (h.put bs [I n, .sl n1 a.length (prs a) u1, .msl bh 0 n (some n), x, bv]).put bh (i64s y.2.2)) (fun y => 1 ≤ y.1 ∧ y.1 ≤ n + 1 ∧ Rch a v y.1 y.2.1 ∧ HmT n a v y.1 y.2.2 ∧ y.2.1.length ≤ 40) (fun y => n + 3 - y.1) (1, [(v : Int)], List.replicate n 0) ⟨Nat.le_refl _, by omega, rch_one a v, hmT_one n a v, by simp⟩ ?_ fun y hy => .of_vg hm ?_
  · simp only [i64s, List.map_replicate]
    refine GStep.forget ?_ (.refl _)
    exact .cons (AV.le.of_eq rfl) (.cons (AV.le.of_eq rfl) (.cons AV.le.unk (.cons (AV.le.of_eq rfl) (.nil _))))
  obtain ⟨s, R, d⟩ := y
  obtain ⟨h1, h2, h3, h4, h4'⟩ := hy
  simp only at h1 h2 h3 h4 h4' ⊢
  rcases Nat.eq_zero_or_pos R.length with hR0 | hR0
  · have hRe : R = [] := List.eq_nil_of_length_eq_zero hR0
    subst hRe
    have hz : ¬ (0 : Int) < ((0 : Nat) : Int) := by omega
    simp only [gl, hz, List.length_nil, F_contradiction_search_measure, g_contradiction_search_measure, go_sem, reduceIte, Nat.reduceEqDiff, Nat.reduceAdd, Nat.reduceMul, Nat.reduceSub, reduceCtorEq, Nat.reduceLeDiff, Nat.reduceLT, Int.reduceLT, Int.reduceLE, Int.reduceToNat, Int.reduceAdd, Int.reduceSub, Int.reduceNeg, Int.reduceMul, Int.reduceEq, ← Bool.decide_and, ← Bool.decide_or, ↓tq_n, ↓tq_e, ↓tq_r, ↓bq_n, ↓bq_e, ↓bq_r, ↓rq_n, ↓rq_r, ↓rq_e]
    refine ⟨_, _, RGh.refl _ _, bh, hbh, rfl, ?_⟩
    have : d = hmL n a v := getD_gext 0 (by rw [h4.1, hmL_len]) fun j hj => by
      rw [h4.1] at hj
      rw [hmT_end h1 h3 h4 rfl hj, hmL_get hj]
    rw [this]
  have hRne : R ≠ [] := fun hh => by rw [hh] at hR0; simp at hR0
  have hsn := rch_le hfn hv h3 hRne
  have hRc : (0 : Int) < (R.length : Int) := by omega
  simp only [gl_pos hR0, hRc, hrd, F_contradiction_search_measure, g_contradiction_search_measure, go_sem, reduceIte, Nat.reduceEqDiff, Nat.reduceAdd, Nat.reduceMul, Nat.reduceSub, reduceCtorEq, Nat.reduceLeDiff, Nat.reduceLT, Int.reduceLT, Int.reduceLE, Int.reduceToNat, Int.reduceAdd, Int.reduceSub, Int.reduceNeg, Int.reduceMul, Int.reduceEq, ← Bool.decide_and, ← Bool.decide_or, ↓tq_n, ↓tq_e, ↓tq_r, ↓bq_n, ↓bq_e, ↓bq_r, ↓rq_n, ↓rq_r, ↓rq_e]
  refine awp_tok 6 1 (nl := true) (n := 0) (cs := []) rfl fun t ht => ?_
  refine awp_loop (α := Nat × List Int × List Int) (fun y => [(0, .ptr bs 0), (1, I v), (4, .sl false R.length (i64s R) .unk), (5, I s), (6, gl (i64s y.2.2) y.2.2.length (.tok t)), (27, .sl n1 a.length (prs a) u1), (28, I a.length), (29, I y.1)]) (fun y => ((h.setTok t y.2.2.length 1).put bs [I n, .sl n1 a.length (prs a) u1, .msl bh 0 n (some n), x, bv]).put bh (i64s y.2.1)) (fun y => y.1 ≤ a.length ∧ HmI n a v s y.1 R y.2.1 y.2.2 ∧ y.2.2.length ≤ y.1) (fun y => a.length - y.1) (0, d, []) ⟨Nat.zero_le _, hmI_zero h1 h4, Nat.le_refl _⟩ (GStep.forget (by repeat' first | exact EnvLe.nil _ | refine EnvLe.cons (AV.le.of_eq rfl) ?_ | refine EnvLe.cons (AV.le.undef _) ?_ | refine EnvLe.cons AV.le.unk ?_) (by repeat' first | exact AH.le.refl _ | assumption | (refine AH.le_put ?_ (by first | assumption | exact (AH.blk_put_ne _ _ (by assumption)).trans (by assumption) | exact AH.none_put (by assumption) | exact AH.none_put (AH.none_put (by assumption)) | (simp only [AH.blk_setTok, AH.tok_put] at *; first | assumption | exact AH.none_put (by assumption)))) | (refine AH.le_setTok ?_ (by first | assumption | exact (AH.blk_put_ne _ _ (by assumption)).trans (by assumption) | exact AH.none_put (by assumption) | exact AH.none_put (AH.none_put (by assumption)) | (simp only [AH.blk_setTok, AH.tok_put] at *; first | assumption | exact AH.none_put (by assumption)))) | (refine AH.le_putM ?_ (by first | assumption | exact (AH.mp_putM_ne _ _ (by assumption)).trans (by assumption) | (simp only [AH.mp_put, AH.mp_setTok] at *; assumption))))) fun y hy => .of_vg hm ?_
  obtain ⟨i, d, X⟩ := y
  obtain ⟨h5, h6, h7⟩ := hy
  simp only at h5 h6 h7 ⊢
  by_cases h8 : i < a.length
  case neg =>
    have h8 : i = a.length := by omega
    subst h8
    obtain ⟨k1, k2⟩ := hmI_end h1 hfn hv h3 h6
    simp only [F_contradiction_search_measure, g_contradiction_search_measure, go_sem, reduceIte, Nat.reduceEqDiff, Nat.reduceAdd, Nat.reduceMul, Nat.reduceSub, reduceCtorEq, Nat.reduceLeDiff, Nat.reduceLT, Int.reduceLT, Int.reduceLE, Int.reduceToNat, Int.reduceAdd, Int.reduceSub, Int.reduceNeg, Int.reduceMul, Int.reduceEq, ← Bool.decide_and, ← Bool.decide_or, ↓tq_n, ↓tq_e, ↓tq_r, ↓bq_n, ↓bq_e, ↓bq_r, ↓rq_n, ↓rq_r, ↓rq_e]
    refine ⟨by rw [inR64]; omega, (s + 1, X, d), ⟨by simp only; omega, by simp only; omega, k2, k1, by simp only; omega⟩, by simp only; omega, ?_⟩
    refine GStep.forget ?_ ?_
    · exact .cons (AV.le.of_eq rfl) (.cons (AV.le.of_eq rfl) (.cons .glU (.cons (AV.le.of_eq rfl) (.nil _))))
    · exact AH.le_put2 (AH.le_put2 (AH.le_setTok (.refl _) (by exact ht)))
  have hcj : (i : Int) < (a.length : Int) := by omega
  obtain ⟨e1, e2, e3, e4⟩ := ev_k he h8
  have hdl := h6.1
  have f1 : fr a i < d.length := by omega
  have hfi0 : (0 : Int) ≤ (fr a i : Int) := by omega
  have hfin : (fr a i : Int) < (n : Int) := by omega
  by_cases c1 : v ≤ fr a i
  case neg =>
    have c1' : ¬ (v : Int) ≤ (fr a i : Int) := by omega
    simp only [hcj, prs_drop h8, e1, c1', F_contradiction_search_measure, g_contradiction_search_measure, go_sem, reduceIte, Nat.reduceEqDiff, Nat.reduceAdd, Nat.reduceMul, Nat.reduceSub, reduceCtorEq, Nat.reduceLeDiff, Nat.reduceLT, Int.reduceLT, Int.reduceLE, Int.reduceToNat, Int.reduceAdd, Int.reduceSub, Int.reduceNeg, Int.reduceMul, Int.reduceEq, ← Bool.decide_and, ← Bool.decide_or, ↓tq_n, ↓tq_e, ↓tq_r, ↓bq_n, ↓bq_e, ↓bq_r, ↓rq_n, ↓rq_r, ↓rq_e]
    exact ⟨by rw [inR64]; omega, (i + 1, d, X), ⟨by simp only; omega, hmI_no h6 (fun hh => c1 hh.1), by simp only; omega⟩, by simp only; omega, (GStep.forget (by repeat' first | exact EnvLe.nil _ | refine EnvLe.cons (AV.le.of_eq rfl) ?_ | refine EnvLe.cons (AV.le.undef _) ?_ | refine EnvLe.cons AV.le.unk ?_) (by repeat' first | exact AH.le.refl _ | assumption | (refine AH.le_put ?_ (by first | assumption | exact (AH.blk_put_ne _ _ (by assumption)).trans (by assumption) | exact AH.none_put (by assumption) | exact AH.none_put (AH.none_put (by assumption)) | (simp only [AH.blk_setTok, AH.tok_put] at *; first | assumption | exact AH.none_put (by assumption)))) | (refine AH.le_setTok ?_ (by first | assumption | exact (AH.blk_put_ne _ _ (by assumption)).trans (by assumption) | exact AH.none_put (by assumption) | exact AH.none_put (AH.none_put (by assumption)) | (simp only [AH.blk_setTok, AH.tok_put] at *; first | assumption | exact AH.none_put (by assumption)))) | (refine AH.le_putM ?_ (by first | assumption | exact (AH.mp_putM_ne _ _ (by assumption)).trans (by assumption) | (simp only [AH.mp_put, AH.mp_setTok] at *; assumption)))))⟩
  have c1' : (v : Int) ≤ (fr a i : Int) := by omega
  by_cases c2 : d.getD (fr a i) 0 = 0
  case neg =>
    simp only [hcj, prs_drop h8, e1, c1', hrd, hfi0, hfin, i64s_drop f1, c2, F_contradiction_search_measure, g_contradiction_search_measure, go_sem, reduceIte, Nat.reduceEqDiff, Nat.reduceAdd, Nat.reduceMul, Nat.reduceSub, reduceCtorEq, Nat.reduceLeDiff, Nat.reduceLT, Int.reduceLT, Int.reduceLE, Int.reduceToNat, Int.reduceAdd, Int.reduceSub, Int.reduceNeg, Int.reduceMul, Int.reduceEq, ← Bool.decide_and, ← Bool.decide_or, ↓tq_n, ↓tq_e, ↓tq_r, ↓bq_n, ↓bq_e, ↓bq_r, ↓rq_n, ↓rq_r, ↓rq_e]
    exact ⟨by rw [inR64]; omega, (i + 1, d, X), ⟨by simp only; omega, hmI_no h6 (fun hh => c2 hh.2.1), by simp only; omega⟩, by simp only; omega, (GStep.forget (by repeat' first | exact EnvLe.nil _ | refine EnvLe.cons (AV.le.of_eq rfl) ?_ | refine EnvLe.cons (AV.le.undef _) ?_ | refine EnvLe.cons AV.le.unk ?_) (by repeat' first | exact AH.le.refl _ | assumption | (refine AH.le_put ?_ (by first | assumption | exact (AH.blk_put_ne _ _ (by assumption)).trans (by assumption) | exact AH.none_put (by assumption) | exact AH.none_put (AH.none_put (by assumption)) | (simp only [AH.blk_setTok, AH.tok_put] at *; first | assumption | exact AH.none_put (by assumption)))) | (refine AH.le_setTok ?_ (by first | assumption | exact (AH.blk_put_ne _ _ (by assumption)).trans (by assumption) | exact AH.none_put (by assumption) | exact AH.none_put (AH.none_put (by assumption)) | (simp only [AH.blk_setTok, AH.tok_put] at *; first | assumption | exact AH.none_put (by assumption)))) | (refine AH.le_putM ?_ (by first | assumption | exact (AH.mp_putM_ne _ _ (by assumption)).trans (by assumption) | (simp only [AH.mp_put, AH.mp_setTok] at *; assumption)))))⟩
  simp only [hcj, prs_drop h8, e1, c1', hrd, hfi0, hfin, i64s_drop f1, c2, F_contradiction_search_measure, g_contradiction_search_measure, go_sem, reduceIte, Nat.reduceEqDiff, Nat.reduceAdd, Nat.reduceMul, Nat.reduceSub, reduceCtorEq, Nat.reduceLeDiff, Nat.reduceLT, Int.reduceLT, Int.reduceLE, Int.reduceToNat, Int.reduceAdd, Int.reduceSub, Int.reduceNeg, Int.reduceMul, Int.reduceEq, ← Bool.decide_and, ← Bool.decide_or, ↓tq_n, ↓tq_e, ↓tq_r, ↓bq_n, ↓bq_e, ↓bq_r, ↓rq_n, ↓rq_r, ↓rq_e]
  refine CallG.mk (r_slices_Contains_int false R .unk (tt a i) _) ?_
  by_cases c3 : (tt a i : Int) ∈ R
  case neg =>
    simp only [decide_eq_false c3, F_contradiction_search_measure, g_contradiction_search_measure, go_sem, reduceIte, Nat.reduceEqDiff, Nat.reduceAdd, Nat.reduceMul, Nat.reduceSub, reduceCtorEq, Nat.reduceLeDiff, Nat.reduceLT, Int.reduceLT, Int.reduceLE, Int.reduceToNat, Int.reduceAdd, Int.reduceSub, Int.reduceNeg, Int.reduceMul, Int.reduceEq, ← Bool.decide_and, ← Bool.decide_or, ↓tq_n, ↓tq_e, ↓tq_r, ↓bq_n, ↓bq_e, ↓bq_r, ↓rq_n, ↓rq_r, ↓rq_e]
    exact ⟨by rw [inR64]; omega, (i + 1, d, X), ⟨by simp only; omega, hmI_no h6 (fun hh => c3 hh.2.2), by simp only; omega⟩, by simp only; omega, (GStep.forget (by repeat' first | exact EnvLe.nil _ | refine EnvLe.cons (AV.le.of_eq rfl) ?_ | refine EnvLe.cons (AV.le.undef _) ?_ | refine EnvLe.cons AV.le.unk ?_) (by repeat' first | exact AH.le.refl _ | assumption | (refine AH.le_put ?_ (by first | assumption | exact (AH.blk_put_ne _ _ (by assumption)).trans (by assumption) | exact AH.none_put (by assumption) | exact AH.none_put (AH.none_put (by assumption)) | (simp only [AH.blk_setTok, AH.tok_put] at *; first | assumption | exact AH.none_put (by assumption)))) | (refine AH.le_setTok ?_ (by first | assumption | exact (AH.blk_put_ne _ _ (by assumption)).trans (by assumption) | exact AH.none_put (by assumption) | exact AH.none_put (AH.none_put (by assumption)) | (simp only [AH.blk_setTok, AH.tok_put] at *; first | assumption | exact AH.none_put (by assumption)))) | (refine AH.le_putM ?_ (by first | assumption | exact (AH.mp_putM_ne _ _ (by assumption)).trans (by assumption) | (simp only [AH.mp_put, AH.mp_setTok] at *; assumption)))))⟩
  have hys := hmI_yes h1 h3 h6 c1 c2 c3 e2 h8
  by_cases c4 : fr a i = v
  · have c4' : (fr a i : Int) = (v : Int) := by rw [c4]
    rw [if_pos c4, c4] at hys
    simp only [decide_eq_true c3, hrd, hfi0, hfin, c4', F_contradiction_search_measure, g_contradiction_search_measure, go_sem, reduceIte, Nat.reduceEqDiff, Nat.reduceAdd, Nat.reduceMul, Nat.reduceSub, reduceCtorEq, Nat.reduceLeDiff, Nat.reduceLT, Int.reduceLT, Int.reduceLE, Int.reduceToNat, Int.reduceAdd, Int.reduceSub, Int.reduceNeg, Int.reduceMul, Int.reduceEq, ← Bool.decide_and, ← Bool.decide_or, ↓tq_n, ↓tq_e, ↓tq_r, ↓bq_n, ↓bq_e, ↓bq_r, ↓rq_n, ↓rq_r, ↓rq_e]
    refine ⟨by omega, by rw [i64s_len]; omega, by rw [inR64]; omega, (i + 1, d.set v (s : Int), X), ⟨by simp only; omega, hys, by simp only; omega⟩, by simp only; omega, ?_⟩
    rw [i64s_set]
    exact (GStep.forget (by repeat' first | exact EnvLe.nil _ | refine EnvLe.cons (AV.le.of_eq rfl) ?_ | refine EnvLe.cons (AV.le.undef _) ?_ | refine EnvLe.cons AV.le.unk ?_) (by repeat' first | exact AH.le.refl _ | assumption | (refine AH.le_put ?_ (by first | assumption | exact (AH.blk_put_ne _ _ (by assumption)).trans (by assumption) | exact AH.none_put (by assumption) | exact AH.none_put (AH.none_put (by assumption)) | (simp only [AH.blk_setTok, AH.tok_put] at *; first | assumption | exact AH.none_put (by assumption)))) | (refine AH.le_setTok ?_ (by first | assumption | exact (AH.blk_put_ne _ _ (by assumption)).trans (by assumption) | exact AH.none_put (by assumption) | exact AH.none_put (AH.none_put (by assumption)) | (simp only [AH.blk_setTok, AH.tok_put] at *; first | assumption | exact AH.none_put (by assumption)))) | (refine AH.le_putM ?_ (by first | assumption | exact (AH.mp_putM_ne _ _ (by assumption)).trans (by assumption) | (simp only [AH.mp_put, AH.mp_setTok] at *; assumption)))))
  · have c4' : ¬ (fr a i : Int) = (v : Int) := by omega
    rw [if_neg c4] at hys
    simp only [decide_eq_true c3, hrd, hfi0, hfin, c4', F_contradiction_search_measure, g_contradiction_search_measure, go_sem, reduceIte, Nat.reduceEqDiff, Nat.reduceAdd, Nat.reduceMul, Nat.reduceSub, reduceCtorEq, Nat.reduceLeDiff, Nat.reduceLT, Int.reduceLT, Int.reduceLE, Int.reduceToNat, Int.reduceAdd, Int.reduceSub, Int.reduceNeg, Int.reduceMul, Int.reduceEq, ← Bool.decide_and, ← Bool.decide_or, ↓tq_n, ↓tq_e, ↓tq_r, ↓bq_n, ↓bq_e, ↓bq_r, ↓rq_n, ↓rq_r, ↓rq_e]
    refine ⟨by rw [i64s_len]; omega, by rw [i64s_len], by omega, by omega, by rw [inR64]; omega, (i + 1, d.set (fr a i) (s : Int), X ++ [(fr a i : Int)]), ⟨by simp only; omega, hys, by simp; omega⟩, by simp only; omega, ?_⟩
    rw [i64s_set, i64s_append, List.length_append]
    exact (GStep.forget (by repeat' first | exact EnvLe.nil _ | refine EnvLe.cons (AV.le.of_eq rfl) ?_ | refine EnvLe.cons (AV.le.undef _) ?_ | refine EnvLe.cons AV.le.unk ?_) (by repeat' first | exact AH.le.refl _ | assumption | (refine AH.le_put ?_ (by first | assumption | exact (AH.blk_put_ne _ _ (by assumption)).trans (by assumption) | exact AH.none_put (by assumption) | exact AH.none_put (AH.none_put (by assumption)) | (simp only [AH.blk_setTok, AH.tok_put] at *; first | assumption | exact AH.none_put (by assumption)))) | (refine AH.le_setTok ?_ (by first | assumption | exact (AH.blk_put_ne _ _ (by assumption)).trans (by assumption) | exact AH.none_put (by assumption) | exact AH.none_put (AH.none_put (by assumption)) | (simp only [AH.blk_setTok, AH.tok_put] at *; first | assumption | exact AH.none_put (by assumption)))) | (refine AH.le_putM ?_ (by first | assumption | exact (AH.mp_putM_ne _ _ (by assumption)).trans (by assumption) | (simp only [AH.mp_put, AH.mp_setTok] at *; assumption)))))
end Go.Proofs.Ytemfmnjhhdeedaa
namespace Go.Proofs.Ytemfmnjhhdeedaa
open Go Go.Abs
set_option linter.unusedSimpArgs false
set_option linter.unusedVariables false
set_option maxRecDepth 20000

theorem r_cmp_isNaN_int (a : Int) (h : AH) : RCall Try.prog n_cmp_isNaN_int [I a] h (.bool false) := by
  refine RCall.of hm cF_cmp_isNaN_int (by simp [g_cmp_isNaN_int]) fun hw h' hl => ?_
  simp only [F_cmp_isNaN_int, g_cmp_isNaN_int, go_sem, reduceIte, Nat.reduceEqDiff, Nat.reduceAdd, Nat.reduceMul, Nat.reduceSub, reduceCtorEq, Nat.reduceLeDiff, Nat.reduceLT, Int.reduceLT, Int.reduceLE, Int.reduceToNat, Int.reduceAdd, Int.reduceSub, Int.reduceNeg, Int.reduceMul, Int.reduceEq, ← Bool.decide_and, ← Bool.decide_or, ↓tq_n, ↓tq_e, ↓tq_r, ↓bq_n, ↓bq_e, ↓bq_r, ↓rq_n, ↓rq_r, ↓rq_e]
  exact ret_ok (by simp)
/-- How two numbers compare. -/
def cmpI (a b : Int) : Int := if a < b then -1 else if b < a then 1 else 0
theorem r_cmp_Compare_int (a b : Int) (h : AH) : RCall Try.prog n_cmp_Compare_int [I a, I b] h (I (cmpI a b)) := by
  refine RCall.of hm cF_cmp_Compare_int (by simp [g_cmp_Compare_int]) fun hw h' hl => ?_
  simp only [F_cmp_Compare_int, g_cmp_Compare_int, go_sem, reduceIte, Nat.reduceEqDiff, Nat.reduceAdd, Nat.reduceMul, Nat.reduceSub, reduceCtorEq, Nat.reduceLeDiff, Nat.reduceLT, Int.reduceLT, Int.reduceLE, Int.reduceToNat, Int.reduceAdd, Int.reduceSub, Int.reduceNeg, Int.reduceMul, Int.reduceEq, ← Bool.decide_and, ← Bool.decide_or, ↓tq_n, ↓tq_e, ↓tq_r, ↓bq_n, ↓bq_e, ↓bq_r, ↓rq_n, ↓rq_r, ↓rq_e]
  refine CallG.mk (r_cmp_isNaN_int a _) ?_
  simp only [F_cmp_Compare_int, g_cmp_Compare_int, go_sem, reduceIte, Nat.reduceEqDiff, Nat.reduceAdd, Nat.reduceMul, Nat.reduceSub, reduceCtorEq, Nat.reduceLeDiff, Nat.reduceLT, Int.reduceLT, Int.reduceLE, Int.reduceToNat, Int.reduceAdd, Int.reduceSub, Int.reduceNeg, Int.reduceMul, Int.reduceEq, ← Bool.decide_and, ← Bool.decide_or, ↓tq_n, ↓tq_e, ↓tq_r, ↓bq_n, ↓bq_e, ↓bq_r, ↓rq_n, ↓rq_r, ↓rq_e]
  refine CallG.mk (r_cmp_isNaN_int b _) ?_
  simp only [F_cmp_Compare_int, g_cmp_Compare_int, go_sem, reduceIte, Nat.reduceEqDiff, Nat.reduceAdd, Nat.reduceMul, Nat.reduceSub, reduceCtorEq, Nat.reduceLeDiff, Nat.reduceLT, Int.reduceLT, Int.reduceLE, Int.reduceToNat, Int.reduceAdd, Int.reduceSub, Int.reduceNeg, Int.reduceMul, Int.reduceEq, ← Bool.decide_and, ← Bool.decide_or, ↓tq_n, ↓tq_e, ↓tq_r, ↓bq_n, ↓bq_e, ↓bq_r, ↓rq_n, ↓rq_r, ↓rq_e]
  refine ⟨fun h1 => ret_ok (by simp [cmpI, h1]), fun h1 => ⟨fun h2 => ret_ok ?_, fun h2 => ret_ok ?_⟩⟩
  · have : ¬ a < b := h1
    simp [cmpI, h1, h2]
  · simp [cmpI, h1, h2]
theorem r_slices_Compare_int (nl1 : Bool) (s : List Int) (tl1 : Tail) (nl2 : Bool) (t : List Int) (tl2 : Tail) (h : AH) :
    RCall Try.prog n_slices_Compare_int [.sl nl1 s.length (i64s s) tl1, .sl nl2 t.length (i64s t) tl2] h (I (cmpL s t)) := by
  refine RCall.of hm cF_slices_Compare_int (by simp [g_slices_Compare_int]) fun hw h' hl => ?_
  have hx := wf_len (hw _ (.head _))
  simp only [F_slices_Compare_int, g_slices_Compare_int, go_sem, reduceIte, Nat.reduceEqDiff, Nat.reduceAdd, Nat.reduceMul, Nat.reduceSub, reduceCtorEq, Nat.reduceLeDiff, Nat.reduceLT, Int.reduceLT, Int.reduceLE, Int.reduceToNat, Int.reduceAdd, Int.reduceSub, Int.reduceNeg, Int.reduceMul, Int.reduceEq, ← Bool.decide_and, ← Bool.decide_or, ↓tq_n, ↓tq_e, ↓tq_r, ↓bq_n, ↓bq_e, ↓bq_r, ↓rq_n, ↓rq_r, ↓rq_e]
  refine awp_loop (fun i : Nat => [(0, .sl nl1 s.length (i64s s) tl1), (1, .sl nl2 t.length (i64s t) tl2), (9, .sl nl1 s.length (i64s s) tl1), (10, I s.length), (11, I i)]) (fun _ => h') (fun i => i ≤ s.length ∧ i ≤ t.length ∧ cmpL s t = cmpL (s.drop i) (t.drop i)) (fun i => s.length - i) 0 ⟨Nat.zero_le _, Nat.zero_le _, rfl⟩ (GStep.forget (by repeat' first | exact EnvLe.nil _ | refine EnvLe.cons (AV.le.of_eq rfl) ?_ | refine EnvLe.cons (AV.le.undef _) ?_ | refine EnvLe.cons AV.le.unk ?_) (by repeat' first | exact AH.le.refl _ | assumption | (refine AH.le_put ?_ (by first | assumption | exact (AH.blk_put_ne _ _ (by assumption)).trans (by assumption) | exact AH.none_put (by assumption) | exact AH.none_put (AH.none_put (by assumption)) | (simp only [AH.blk_setTok, AH.tok_put] at *; first | assumption | exact AH.none_put (by assumption)))) | (refine AH.le_setTok ?_ (by first | assumption | exact (AH.blk_put_ne _ _ (by assumption)).trans (by assumption) | exact AH.none_put (by assumption) | exact AH.none_put (AH.none_put (by assumption)) | (simp only [AH.blk_setTok, AH.tok_put] at *; first | assumption | exact AH.none_put (by assumption)))) | (refine AH.le_putM ?_ (by first | assumption | exact (AH.mp_putM_ne _ _ (by assumption)).trans (by assumption) | (simp only [AH.mp_put, AH.mp_setTok] at *; assumption))))) fun i hi => .of_vg hm ?_
  obtain ⟨h1, h2, h3⟩ := hi
  by_cases h4 : i < s.length
  · have hc : (i : Int) < (s.length : Int) := by omega
    have d1 := getD_drop s 0 h4
    by_cases h5 : i < t.length
    · have hc2 : ¬ (t.length : Int) ≤ (i : Int) := by omega
      have hc3 : (i : Int) < (t.length : Int) := by omega
      have d2 := getD_drop t 0 h5
      simp only [hc, i64s_drop h4, hc2, hc3, i64s_drop h5, F_slices_Compare_int, g_slices_Compare_int, go_sem, reduceIte, Nat.reduceEqDiff, Nat.reduceAdd, Nat.reduceMul, Nat.reduceSub, reduceCtorEq, Nat.reduceLeDiff, Nat.reduceLT, Int.reduceLT, Int.reduceLE, Int.reduceToNat, Int.reduceAdd, Int.reduceSub, Int.reduceNeg, Int.reduceMul, Int.reduceEq, ← Bool.decide_and, ← Bool.decide_or, ↓tq_n, ↓tq_e, ↓tq_r, ↓bq_n, ↓bq_e, ↓bq_r, ↓rq_n, ↓rq_r, ↓rq_e]
      refine CallG.mk (r_cmp_Compare_int _ _ _) ?_
      rw [d1, d2] at h3
      simp only [cmpL] at h3
      unfold cmpI
      by_cases c1 : s.getD i 0 < t.getD i 0
      · rw [if_pos c1] at h3
        rw [if_pos c1]
        simp only [F_slices_Compare_int, g_slices_Compare_int, go_sem, reduceIte, Nat.reduceEqDiff, Nat.reduceAdd, Nat.reduceMul, Nat.reduceSub, reduceCtorEq, Nat.reduceLeDiff, Nat.reduceLT, Int.reduceLT, Int.reduceLE, Int.reduceToNat, Int.reduceAdd, Int.reduceSub, Int.reduceNeg, Int.reduceMul, Int.reduceEq, ← Bool.decide_and, ← Bool.decide_or, ↓tq_n, ↓tq_e, ↓tq_r, ↓bq_n, ↓bq_e, ↓bq_r, ↓rq_n, ↓rq_r, ↓rq_e]
        exact ret_ok (by rw [h3])
      · rw [if_neg c1] at h3
        rw [if_neg c1]
        by_cases c2 : t.getD i 0 < s.getD i 0
        · rw [if_pos c2] at h3
          rw [if_pos c2]
          simp only [F_slices_Compare_int, g_slices_Compare_int, go_sem, reduceIte, Nat.reduceEqDiff, Nat.reduceAdd, Nat.reduceMul, Nat.reduceSub, reduceCtorEq, Nat.reduceLeDiff, Nat.reduceLT, Int.reduceLT, Int.reduceLE, Int.reduceToNat, Int.reduceAdd, Int.reduceSub, Int.reduceNeg, Int.reduceMul, Int.reduceEq, ← Bool.decide_and, ← Bool.decide_or, ↓tq_n, ↓tq_e, ↓tq_r, ↓bq_n, ↓bq_e, ↓bq_r, ↓rq_n, ↓rq_r, ↓rq_e]
          exact ret_ok (by rw [h3])
        · rw [if_neg c2] at h3
          rw [if_neg c2]
          simp only [F_slices_Compare_int, g_slices_Compare_int, go_sem, reduceIte, Nat.reduceEqDiff, Nat.reduceAdd, Nat.reduceMul, Nat.reduceSub, reduceCtorEq, Nat.reduceLeDiff, Nat.reduceLT, Int.reduceLT, Int.reduceLE, Int.reduceToNat, Int.reduceAdd, Int.reduceSub, Int.reduceNeg, Int.reduceMul, Int.reduceEq, ← Bool.decide_and, ← Bool.decide_or, ↓tq_n, ↓tq_e, ↓tq_r, ↓bq_n, ↓bq_e, ↓bq_r, ↓rq_n, ↓rq_r, ↓rq_e]
          exact ⟨by rw [inR64]; omega, i + 1, ⟨by omega, by omega, h3⟩, by omega, (GStep.forget (by repeat' first | exact EnvLe.nil _ | refine EnvLe.cons (AV.le.of_eq rfl) ?_ | refine EnvLe.cons (AV.le.undef _) ?_ | refine EnvLe.cons AV.le.unk ?_) (by repeat' first | exact AH.le.refl _ | assumption | (refine AH.le_put ?_ (by first | assumption | exact (AH.blk_put_ne _ _ (by assumption)).trans (by assumption) | exact AH.none_put (by assumption) | exact AH.none_put (AH.none_put (by assumption)) | (simp only [AH.blk_setTok, AH.tok_put] at *; first | assumption | exact AH.none_put (by assumption)))) | (refine AH.le_setTok ?_ (by first | assumption | exact (AH.blk_put_ne _ _ (by assumption)).trans (by assumption) | exact AH.none_put (by assumption) | exact AH.none_put (AH.none_put (by assumption)) | (simp only [AH.blk_setTok, AH.tok_put] at *; first | assumption | exact AH.none_put (by assumption)))) | (refine AH.le_putM ?_ (by first | assumption | exact (AH.mp_putM_ne _ _ (by assumption)).trans (by assumption) | (simp only [AH.mp_put, AH.mp_setTok] at *; assumption)))))⟩
    · have h6 : i = t.length := by omega
      have hc2 : (t.length : Int) ≤ (i : Int) := by omega
      simp only [hc, i64s_drop h4, hc2, F_slices_Compare_int, g_slices_Compare_int, go_sem, reduceIte, Nat.reduceEqDiff, Nat.reduceAdd, Nat.reduceMul, Nat.reduceSub, reduceCtorEq, Nat.reduceLeDiff, Nat.reduceLT, Int.reduceLT, Int.reduceLE, Int.reduceToNat, Int.reduceAdd, Int.reduceSub, Int.reduceNeg, Int.reduceMul, Int.reduceEq, ← Bool.decide_and, ← Bool.decide_or, ↓tq_n, ↓tq_e, ↓tq_r, ↓bq_n, ↓bq_e, ↓bq_r, ↓rq_n, ↓rq_r, ↓rq_e]
      refine ret_ok ?_
      rw [h3, d1, List.drop_of_length_le (l := t) (by omega)]
      rfl
  · have h6 : i = s.length := by omega
    subst h6
    simp only [F_slices_Compare_int, g_slices_Compare_int, go_sem, reduceIte, Nat.reduceEqDiff, Nat.reduceAdd, Nat.reduceMul, Nat.reduceSub, reduceCtorEq, Nat.reduceLeDiff, Nat.reduceLT, Int.reduceLT, Int.reduceLE, Int.reduceToNat, Int.reduceAdd, Int.reduceSub, Int.reduceNeg, Int.reduceMul, Int.reduceEq, ← Bool.decide_and, ← Bool.decide_or, ↓tq_n, ↓tq_e, ↓tq_r, ↓bq_n, ↓bq_e, ↓bq_r, ↓rq_n, ↓rq_r, ↓rq_e]
    rw [List.drop_of_length_le (l := s) (Nat.le_refl _)] at h3
    refine ⟨fun hlt => ret_ok ?_, fun hge => ret_ok ?_⟩
    · rw [h3, getD_drop t 0 (i := s.length) (by omega)]
      rfl
    · rw [h3, List.drop_of_length_le (l := t) (by omega)]
      rfl

/-- The best set so far. -/
def bA : Option (List Int) → AV
  | none => .sl true 0 [] .full
  | some s => .sl false s.length (i64s s) .unk
/-- The path, a list that is kept in memory. -/
def Pb (H0 : AH) (bs : Nat) (x : AV) (xs : List Int) (h : AH) : Prop :=
  (x = .sl true 0 [] .full ∧ xs = []) ∨ ∃ b q more, x = .msl b 0 xs.length (some q) ∧ b ≠ bs ∧ H0.blk b = none ∧ h.blk b = some (i64s xs ++ more) ∧ xs.length + more.length = q
/-- The state of the search. -/
structure SS (H0 : AH) (bs n : Nat) (A hv x : AV) (xs : List Int) (best : Option (List Int)) (h : AH) : Prop where
  le : H0.le h
  n0 : H0.blk bs = none
  cell : h.blk bs = some [I n, A, hv, x, bA best]
  pb : Pb H0 bs x xs h
variable {H0 h : AH} {bs n : Nat} {A hv x : AV} {xs : List Int} {best : Option (List Int)}
theorem AH.le_putM2 {h h' : AH} {m : Nat} {es : List (AV × AV)} (hl : h.le h') : (h.putM m es).le (h'.putM m es) := by
  refine ⟨hl.blk, hl.tok, fun b c e => ?_⟩
  show (if b = m then _ else _) = _
  have e : (if b = m then some es else h.mp b) = some c := e
  split
  · rename_i hb; rw [if_pos hb] at e; exact e
  · rename_i hb; rw [if_neg hb] at e; exact hl.mp _ _ e
theorem SS.map (k : SS H0 bs n A hv x xs best h) (m : Nat) (es : List (AV × AV)) : SS (H0.putM m es) bs n A hv x xs best (h.putM m es) :=
  ⟨AH.le_putM2 k.le, k.n0, k.cell, k.pb⟩
theorem SS.unmap {m : Nat} {es : List (AV × AV)} (k : SS (H0.putM m es) bs n A hv x xs best h) (hm : H0.mp m = none) : SS H0 bs n A hv x xs best h :=
  ⟨(AH.le_putM (AH.le.refl _) hm).trans k.le, k.n0, k.cell, k.pb⟩
/-- The path grows. -/
theorem SS.step (k : SS H0 bs n A hv x xs best h) (hl : xs.length ≤ 1000) {v : Int} {KS : AV → AH → Prop}
    (hk : ∀ b q h', h'.blk bs = some [I n, A, hv, x, bA best] → SS H0 bs n A hv (.msl b 0 (xs.length + 1) (some q)) (xs ++ [v]) best (h'.put bs [I n, A, hv, .msl b 0 (xs.length + 1) (some q), bA best]) → KS (.msl b 0 (xs.length + 1) (some q)) h') :
    AiS h 1 8 x (.sl false 1 [I v] .full) (c := ⟨KS⟩) := by
  have fin : ∀ b q cells h', b ≠ bs → H0.blk b = none → H0.le h' → h'.blk bs = some [I n, A, hv, x, bA best] → h'.blk b = some cells → (∃ more, cells = i64s (xs ++ [v]) ++ more ∧ xs.length + 1 + more.length = q) → KS (.msl b 0 (xs.length + 1) (some q)) h' := by
    intro b q cells h' h1 h2 h3 h4 h5 ⟨more, h6, h7⟩
    refine hk _ _ _ h4 ⟨AH.le_put h3 k.n0, k.n0, AH.blk_put _ _ _, .inr ⟨b, q, more, by simp, h1, h2, ?_, by simpa using h7⟩⟩
    rw [AH.blk_put_ne _ _ h1, h5, h6]
  rcases k.pb with ⟨rfl, rfl⟩ | ⟨b, q, more, rfl, hne, hn, hb, hq⟩
  · rw [aiS_full, rg_sl]
    refine ⟨rfl, rfl, by omega, by omega, by omega, GrowG.mk fun b q hq hb => ?_⟩
    have hbb : b ≠ bs := fun hh => by subst hh; rw [k.cell] at hb; cases hb
    refine fin b q _ _ hbb (AH.none_of_le k.le hb) (AH.le_put k.le (AH.none_of_le k.le hb)) ((AH.blk_put_ne _ _ (fun hh => hbb hh.symm)).trans k.cell) (AH.blk_put _ _ _) ⟨List.replicate (q - 1) .undef, by simp [i64s], by simp; omega⟩
  · rw [aiS_msl, rg_sl, hb, BlkG_some]
    have hlen : (i64s xs ++ more).length = q := by rw [List.length_append, i64s_len]; omega
    refine ⟨rfl, by omega, by omega, by rw [hlen]; omega, fun h1 => ⟨by rw [hlen]; omega, ?_⟩, fun h1 => GrowG.mk fun b' q' hq' hb' => ?_⟩
    · refine fin b q _ _ hne hn (AH.le_put k.le hn) ((AH.blk_put_ne _ _ (fun hh => hne hh.symm)).trans k.cell) (AH.blk_put _ _ _) ⟨more.drop 1, ?_, by simp; omega⟩
      rw [Nat.zero_add, Nat.mul_one, spl_eq _ _ _ (by rw [hlen]; simp only [List.length_singleton]; omega)]
      have e1 : (i64s xs ++ more).take xs.length = i64s xs := by
        rw [List.take_append_of_le_length (by rw [i64s_len]; exact Nat.le_refl _), List.take_of_length_le (by rw [i64s_len]; exact Nat.le_refl _)]
      have e2 : (i64s xs ++ more).drop (xs.length + 1) = more.drop 1 := by
        rw [List.drop_append, List.drop_of_length_le (by rw [i64s_len]; omega), i64s_len, List.nil_append]
        congr 1
        omega
      simp only [List.length_singleton, e1, e2, i64s_append, i64s_one]
    · have hbb : b' ≠ bs := fun hh => by subst hh; rw [k.cell] at hb'; cases hb'
      have e1 : ((i64s xs ++ more).drop 0).take (xs.length * 1) = i64s xs := by
        rw [List.drop_zero, Nat.mul_one, List.take_append_of_le_length (by rw [i64s_len]; exact Nat.le_refl _), List.take_of_length_le (by rw [i64s_len]; exact Nat.le_refl _)]
      refine fin b' q' _ _ hbb (AH.none_of_le k.le hb') (AH.le_put k.le (AH.none_of_le k.le hb')) ((AH.blk_put_ne _ _ (fun hh => hbb hh.symm)).trans k.cell) (AH.blk_put _ _ _) ⟨List.replicate (q' - (xs.length + 1)) .undef, ?_, by simp; omega⟩
      rw [e1]
      simp [i64s]
/-- The path loses its last piece. -/
theorem SS.cut {v : Int} (k : SS H0 bs n A hv x (xs ++ [v]) best h) : ∃ b q, x = .msl b 0 (xs.length + 1) (some q) ∧ xs.length + 1 ≤ q ∧ SS H0 bs n A hv (.msl b 0 xs.length (some q)) xs best (h.put bs [I n, A, hv, .msl b 0 xs.length (some q), bA best]) := by
  rcases k.pb with ⟨_, e⟩ | ⟨b, q, more, rfl, hne, hn, hb, hq⟩
  · simp at e
  · refine ⟨b, q, by simp, by simp at hq; omega, AH.le_put k.le k.n0, k.n0, AH.blk_put _ _ _, .inr ⟨b, q, I v :: more, rfl, hne, hn, ?_, by simp at hq ⊢; omega⟩⟩
    rw [AH.blk_put_ne _ _ hne, hb, i64s_append, List.append_assoc]
    rfl
/-- A better set is kept. -/
theorem SS.better (k : SS H0 bs n A hv x xs best h) (b' : Option (List Int)) : SS H0 bs n A hv x xs b' (h.put bs [I n, A, hv, x, bA b']) := by
  refine ⟨AH.le_put k.le k.n0, k.n0, AH.blk_put _ _ _, ?_⟩
  rcases k.pb with hp | ⟨b, q, more, rfl, hne, hn, hb, hq⟩
  · exact .inl hp
  · exact .inr ⟨b, q, more, rfl, hne, hn, (AH.blk_put_ne _ _ hne).trans hb, hq⟩
/-- A new table of ways home. -/
theorem SS.home (k : SS H0 bs n A hv x xs best h) {bh : Nat} (hbh : h.blk bh = none) (hv' : AV) (cs : List AV) : SS (H0.put bh cs) bs n A hv' x xs best ((h.put bs [I n, A, hv', x, bA best]).put bh cs) := by
  have hne : bs ≠ bh := fun hh => by subst hh; rw [k.cell] at hbh; cases hbh
  refine ⟨AH.le_put2 (AH.le_put k.le k.n0), (AH.blk_put_ne _ _ hne).trans k.n0, (AH.blk_put_ne _ _ hne).trans (AH.blk_put _ _ _), ?_⟩
  rcases k.pb with hp | ⟨b, q, more, rfl, hne2, hn, hb, hq⟩
  · exact .inl hp
  · have hbb : b ≠ bh := fun hh => by subst hh; rw [hb] at hbh; cases hbh
    exact .inr ⟨b, q, more, rfl, hne2, (AH.blk_put_ne _ _ hbb).trans hn, (AH.blk_put_ne _ _ hbb).trans ((AH.blk_put_ne _ _ hne2).trans hb), hq⟩
theorem SS.unhome {bh : Nat} {cs : List AV} (k : SS (H0.put bh cs) bs n A hv x xs best h) (hn : H0.blk bh = none) : SS H0 bs n A hv x xs best h := by
  have hle := AH.le_put (b := bh) (cs := cs) (AH.le.refl H0) hn
  refine ⟨hle.trans k.le, AH.none_of_le hle k.n0, k.cell, ?_⟩
  rcases k.pb with hp | ⟨b, q, more, rfl, hne2, hn2, hb, hq⟩
  · exact .inl hp
  · exact .inr ⟨b, q, more, rfl, hne2, AH.none_of_le hle hn2, hb, hq⟩
end Go.Proofs.Ytemfmnjhhdeedaa
namespace Go.Proofs.Ytemfmnjhhdeedaa
open Go Go.Abs
set_option linter.unusedSimpArgs false
set_option linter.unusedVariables false
set_option maxRecDepth 20000

theorem hmN_le {n : Nat} {a : List (Int × Int)} (he : Ev n a) (v x : Nat) : hmN a v x ≤ n := by
  rcases hmN_spec a v x with ⟨h1, _⟩ | h
  · omega
  · obtain ⟨ks, w1, w2, w3⟩ := h.2.1
    cases ks with
    | nil => simp at w1; have := h.1; omega
    | cons k ks =>
      have hv : v < n := by
        rcases List.eq_nil_or_concat ks with rfl | ⟨l, j, rfl⟩
        · have := w2.2.2; rw [← show tt a k = v from this]; exact (ev_k he w2.1).2.2.1
        · rw [List.concat_eq_append] at w2
          obtain ⟨y, y1, y2⟩ := iw_split w2.2.2
          rw [← show tt a j = v from y2.2.2]; exact (ev_k he y2.1).2.2.1
      obtain ⟨q, q1, q2, q3, q4⟩ := iw_short (fun k hk => (ev_k he hk).2.1) hv w2.2.2
      rcases Nat.lt_or_ge (q.length + 1) (hmN a v x) with h5 | h5
      · refine absurd ⟨k :: q, rfl, ⟨w2.1, w2.2.1, q4⟩, fun j hj => ?_⟩ (h.2.2 (q.length + 1) (by omega) h5)
        rcases List.mem_cons.1 hj with rfl | hj
        · exact w3 j (by simp)
        · exact w3 j (by simp [q3 j hj])
      · omega
theorem tk_fr {a : List (Int × Int)} {v : Nat} {H : Nat → Nat} {at_ left k : Nat} (h : fr a k ≠ at_) : tk a v H at_ left k = false := Bool.eq_false_iff.2 fun hh => h (tk_iff.1 hh).1
theorem tk_lo {a : List (Int × Int)} {v : Nat} {H : Nat → Nat} {at_ left k : Nat} (h : ¬ v ≤ tt a k) : tk a v H at_ left k = false := Bool.eq_false_iff.2 fun hh => h (tk_iff.1 hh).2.1
/-- The ends that were tried. -/
def Trd (a : List (Int × Int)) (v at_ i : Nat) (ts : List Int) : Prop := ∀ y : Int, y ∈ ts ↔ ∃ j, j < i ∧ y = (tt a j : Nat) ∧ fr a j = at_ ∧ v ≤ tt a j
theorem trd_no {a : List (Int × Int)} {v at_ i : Nat} {ts : List Int} (h : Trd a v at_ i ts) (hn : ¬ (fr a i = at_ ∧ v ≤ tt a i ∧ (tt a i : Int) ∉ ts)) : Trd a v at_ (i + 1) ts := fun y => by
  rw [h y]
  constructor
  · rintro ⟨j, h1, h2⟩; exact ⟨j, by omega, h2⟩
  · rintro ⟨j, h1, h2, h3, h4⟩
    rcases lt_succ_cases h1 with h5 | rfl
    · exact ⟨j, h5, h2, h3, h4⟩
    · have : (tt a j : Int) ∈ ts := Classical.byContradiction fun hh => hn ⟨h3, h4, hh⟩
      rw [h2]
      exact (h _).1 this
theorem trd_yes {a : List (Int × Int)} {v at_ i : Nat} {ts : List Int} (h : Trd a v at_ i ts) (h1 : fr a i = at_) (h2 : v ≤ tt a i) : Trd a v at_ (i + 1) (ts ++ [(tt a i : Int)]) := fun y => by
  rw [List.mem_append, List.mem_singleton, h y]
  constructor
  · rintro (⟨j, h3, h4⟩ | rfl)
    · exact ⟨j, by omega, h4⟩
    · exact ⟨i, by omega, rfl, h1, h2⟩
  · rintro ⟨j, h3, h4, h5, h6⟩
    rcases lt_succ_cases h3 with h7 | rfl
    · exact .inl ⟨j, h7, h4, h5, h6⟩
    · exact .inr h4
theorem tk_in {a : List (Int × Int)} {v : Nat} {H : Nat → Nat} {at_ left k : Nat} {ts : List Int} (h : Trd a v at_ k ts) (hi : (tt a k : Int) ∈ ts) : tk a v H at_ left k = false := Bool.eq_false_iff.2 fun hh => by
  obtain ⟨j, h1, h2, h3, _⟩ := (h _).1 hi
  exact (tk_iff.1 hh).2.2.1 j h1 ⟨h3, by omega⟩
theorem tk_new {a : List (Int × Int)} {v : Nat} {H : Nat → Nat} {at_ left k : Nat} {ts : List Int} (h : Trd a v at_ k ts) (h1 : fr a k = at_) (h2 : v ≤ tt a k) (hi : (tt a k : Int) ∉ ts) (h3 : left = 1 → tt a k = v) (h4 : left ≠ 1 → tt a k ≠ v ∧ H (tt a k) = left - 1) : tk a v H at_ left k = true :=
  tk_iff.2 ⟨h1, h2, fun j hj ⟨e1, e2⟩ => hi ((h _).2 ⟨j, hj, by rw [e2], e1, by rw [e2]; exact h2⟩), h3, h4⟩

set_option maxHeartbeats 4000000 in
theorem s_extend (n : Nat) (n1 : Bool) (a : List (Int × Int)) (u1 : Tail) (he : Ev n a) (v : Nat) (hv : v < n) (bs bh : Nat) : ∀ (left at_ : Nat) (path : List Int) (best : Option (List Int)) (x : AV) (h H0 : AH), at_ < n → path.length + left ≤ 100 → 0 < path.length + left → (∀ y ∈ path, 0 ≤ y ∧ y < 1000) → H0.blk bh = some (i64s (hmL n a v)) →
    SS H0 bs n (.sl n1 a.length (prs a) u1) (.msl bh 0 n (some n)) x path best h →
    ACalls Try.prog n_contradiction_search_extend [.ptr bs 0, I at_, I v, I (left : Nat)] h (fun r h'' => r = .tup [] ∧ ∃ x', SS H0 bs n (.sl n1 a.length (prs a) u1) (.msl bh 0 n (some n)) x' path (extF a v (hmN a v) left at_ path best) h'') := by
  intro left
  have hn : n ≤ 24 := by have := he.2.1; omega
  have ha := he.2.2.1
  induction left with
  | zero =>
    intro at_ path best x h H0 hat hl hpos hpe hhm k
    refine ACalls.of hm cF_contradiction_search_extend (by simp [g_contradiction_search_extend]) fun hw => ?_
    rcases k.pb with ⟨_, e⟩ | ⟨b, q, more, rfl, hne, hnb, hb, hq⟩
    · subst e; simp at hpos
    have hcell := k.cell
    have hsl := srt_len path
    have fin := k.better (upd best (srt path))
    have hz : ((0 : Nat) : Int) = 0 := by omega
    simp only [hcell, hz, F_contradiction_search_extend, g_contradiction_search_extend, go_sem, reduceIte, Nat.reduceEqDiff, Nat.reduceAdd, Nat.reduceMul, Nat.reduceSub, reduceCtorEq, Nat.reduceLeDiff, Nat.reduceLT, Int.reduceLT, Int.reduceLE, Int.reduceToNat, Int.reduceAdd, Int.reduceSub, Int.reduceNeg, Int.reduceMul, Int.reduceEq, ← Bool.decide_and, ← Bool.decide_or, ↓tq_n, ↓tq_e, ↓tq_r, ↓bq_n, ↓bq_e, ↓bq_r, ↓rq_n, ↓rq_r, ↓rq_e]
    refine CallG.mk (r_slices_ValuesM b path.length q _) ?_
    simp only [F_contradiction_search_extend, g_contradiction_search_extend, go_sem, reduceIte, Nat.reduceEqDiff, Nat.reduceAdd, Nat.reduceMul, Nat.reduceSub, reduceCtorEq, Nat.reduceLeDiff, Nat.reduceLT, Int.reduceLT, Int.reduceLE, Int.reduceToNat, Int.reduceAdd, Int.reduceSub, Int.reduceNeg, Int.reduceMul, Int.reduceEq, ← Bool.decide_and, ← Bool.decide_or, ↓tq_n, ↓tq_e, ↓tq_r, ↓bq_n, ↓bq_e, ↓bq_r, ↓rq_n, ↓rq_r, ↓rq_e]
    refine CallG.mk (r_slices_SortedM path b q more (fun y hy => by have := hpe y hy; rw [inR64]; omega) (by omega) (by omega) _ hb) ?_
    cases best with
    | none =>
      simp only [hcell, bA, F_contradiction_search_extend, g_contradiction_search_extend, go_sem, reduceIte, Nat.reduceEqDiff, Nat.reduceAdd, Nat.reduceMul, Nat.reduceSub, reduceCtorEq, Nat.reduceLeDiff, Nat.reduceLT, Int.reduceLT, Int.reduceLE, Int.reduceToNat, Int.reduceAdd, Int.reduceSub, Int.reduceNeg, Int.reduceMul, Int.reduceEq, ← Bool.decide_and, ← Bool.decide_or, ↓tq_n, ↓tq_e, ↓tq_r, ↓bq_n, ↓bq_e, ↓bq_r, ↓rq_n, ↓rq_r, ↓rq_e]
      exact ⟨_, _, RGh.refl _ _, rfl, _, fin⟩
    | some t =>
      have hbA : bA (upd (some t) (srt path)) = if (srt path).length < t.length ∨ ((srt path).length = t.length ∧ cmpL (srt path) t < 0) then bA (some (srt path)) else bA (some t) := by
        unfold upd
        simp only
        split <;> rfl
      rw [hbA] at fin
      have same : h = h.put bs [I n, .sl n1 a.length (prs a) u1, .msl bh 0 n (some n), .msl b 0 path.length (some q), bA (some t)] := (AH.put_same hcell).symm
      by_cases c1 : (srt path).length < t.length
      · have c1' : ((srt path).length : Int) < (t.length : Int) := by omega
        rw [if_pos (.inl c1)] at fin
        simp only [hcell, bA, c1', F_contradiction_search_extend, g_contradiction_search_extend, go_sem, reduceIte, Nat.reduceEqDiff, Nat.reduceAdd, Nat.reduceMul, Nat.reduceSub, reduceCtorEq, Nat.reduceLeDiff, Nat.reduceLT, Int.reduceLT, Int.reduceLE, Int.reduceToNat, Int.reduceAdd, Int.reduceSub, Int.reduceNeg, Int.reduceMul, Int.reduceEq, ← Bool.decide_and, ← Bool.decide_or, ↓tq_n, ↓tq_e, ↓tq_r, ↓bq_n, ↓bq_e, ↓bq_r, ↓rq_n, ↓rq_r, ↓rq_e]
        exact ⟨_, _, RGh.refl _ _, rfl, _, fin⟩
      have c1' : ¬ ((srt path).length : Int) < (t.length : Int) := by omega
      by_cases c2 : (srt path).length = t.length
      case neg =>
        have c2' : ¬ ((srt path).length : Int) = (t.length : Int) := by omega
        rw [if_neg (fun hh => by rcases hh with hh | ⟨hh, _⟩; exact c1 hh; exact c2 hh), ← same] at fin
        simp only [hcell, bA, c1', c2', F_contradiction_search_extend, g_contradiction_search_extend, go_sem, reduceIte, Nat.reduceEqDiff, Nat.reduceAdd, Nat.reduceMul, Nat.reduceSub, reduceCtorEq, Nat.reduceLeDiff, Nat.reduceLT, Int.reduceLT, Int.reduceLE, Int.reduceToNat, Int.reduceAdd, Int.reduceSub, Int.reduceNeg, Int.reduceMul, Int.reduceEq, ← Bool.decide_and, ← Bool.decide_or, ↓tq_n, ↓tq_e, ↓tq_r, ↓bq_n, ↓bq_e, ↓bq_r, ↓rq_n, ↓rq_r, ↓rq_e]
        exact ⟨_, _, RGh.refl _ _, rfl, _, fin⟩
      have c2' : ((srt path).length : Int) = (t.length : Int) := by omega
      have c0' : ¬ (t.length : Int) < (t.length : Int) := by omega
      simp only [hcell, bA, c1', c2', c0', F_contradiction_search_extend, g_contradiction_search_extend, go_sem, reduceIte, Nat.reduceEqDiff, Nat.reduceAdd, Nat.reduceMul, Nat.reduceSub, reduceCtorEq, Nat.reduceLeDiff, Nat.reduceLT, Int.reduceLT, Int.reduceLE, Int.reduceToNat, Int.reduceAdd, Int.reduceSub, Int.reduceNeg, Int.reduceMul, Int.reduceEq, ← Bool.decide_and, ← Bool.decide_or, ↓tq_n, ↓tq_e, ↓tq_r, ↓bq_n, ↓bq_e, ↓bq_r, ↓rq_n, ↓rq_r, ↓rq_e]
      have hcp := r_slices_Compare_int false (srt path) .unk false t .unk h
      rw [c2] at hcp
      rw [c2]
      refine CallG.mk hcp ?_
      by_cases c3 : cmpL (srt path) t < 0
      · rw [if_pos (.inr ⟨c2, c3⟩)] at fin
        simp only [bA, c2] at fin
        simp only [hcell, bA, c3, F_contradiction_search_extend, g_contradiction_search_extend, go_sem, reduceIte, Nat.reduceEqDiff, Nat.reduceAdd, Nat.reduceMul, Nat.reduceSub, reduceCtorEq, Nat.reduceLeDiff, Nat.reduceLT, Int.reduceLT, Int.reduceLE, Int.reduceToNat, Int.reduceAdd, Int.reduceSub, Int.reduceNeg, Int.reduceMul, Int.reduceEq, ← Bool.decide_and, ← Bool.decide_or, ↓tq_n, ↓tq_e, ↓tq_r, ↓bq_n, ↓bq_e, ↓bq_r, ↓rq_n, ↓rq_r, ↓rq_e]
        exact ⟨_, _, RGh.refl _ _, rfl, _, fin⟩
      · rw [if_neg (fun hh => by rcases hh with hh | ⟨_, hh⟩; exact c1 hh; exact c3 hh), ← same] at fin
        simp only [hcell, bA, c3, F_contradiction_search_extend, g_contradiction_search_extend, go_sem, reduceIte, Nat.reduceEqDiff, Nat.reduceAdd, Nat.reduceMul, Nat.reduceSub, reduceCtorEq, Nat.reduceLeDiff, Nat.reduceLT, Int.reduceLT, Int.reduceLE, Int.reduceToNat, Int.reduceAdd, Int.reduceSub, Int.reduceNeg, Int.reduceMul, Int.reduceEq, ← Bool.decide_and, ← Bool.decide_or, ↓tq_n, ↓tq_e, ↓tq_r, ↓bq_n, ↓bq_e, ↓bq_r, ↓rq_n, ↓rq_r, ↓rq_e]
        exact ⟨_, _, RGh.refl _ _, rfl, _, fin⟩
  | succ left ih =>
    intro at_ path best x h H0 hat hl hpos hpe hhm k
    refine ACalls.of hm cF_contradiction_search_extend (by simp [g_contradiction_search_extend]) fun hw => ?_
    have hcell := k.cell
    have c0 : ¬ ((left + 1 : Nat) : Int) = 0 := by omega
    simp only [c0, F_contradiction_search_extend, g_contradiction_search_extend, go_sem, reduceIte, Nat.reduceEqDiff, Nat.reduceAdd, Nat.reduceMul, Nat.reduceSub, reduceCtorEq, Nat.reduceLeDiff, Nat.reduceLT, Int.reduceLT, Int.reduceLE, Int.reduceToNat, Int.reduceAdd, Int.reduceSub, Int.reduceNeg, Int.reduceMul, Int.reduceEq, ← Bool.decide_and, ← Bool.decide_or, ↓tq_n, ↓tq_e, ↓tq_r, ↓bq_n, ↓bq_e, ↓bq_r, ↓rq_n, ↓rq_r, ↓rq_e]
    refine NewMG.mk fun m hmm => ?_
    have hm0 : H0.mp m = none := AH.mnone_of_le k.le hmm
    simp only [hcell, F_contradiction_search_extend, g_contradiction_search_extend, go_sem, reduceIte, Nat.reduceEqDiff, Nat.reduceAdd, Nat.reduceMul, Nat.reduceSub, reduceCtorEq, Nat.reduceLeDiff, Nat.reduceLT, Int.reduceLT, Int.reduceLE, Int.reduceToNat, Int.reduceAdd, Int.reduceSub, Int.reduceNeg, Int.reduceMul, Int.reduceEq, ← Bool.decide_and, ← Bool.decide_or, ↓tq_n, ↓tq_e, ↓tq_r, ↓bq_n, ↓bq_e, ↓bq_r, ↓rq_n, ↓rq_r, ↓rq_e]
    refine awp_loop (α := Nat × List Int × AH) (fun y => [(0, .ptr bs 0), (1, I at_), (2, I v), (3, I ((left + 1 : Nat) : Int)), (9, .map m), (62, .sl n1 a.length (prs a) u1), (63, I a.length), (64, I y.1)]) (fun y => y.2.2)
      (fun y => y.1 ≤ a.length ∧ Trd a v at_ y.1 y.2.1 ∧ ∃ x, SS (H0.putM m (keys y.2.1)) bs n (.sl n1 a.length (prs a) u1) (.msl bh 0 n (some n)) x path (extK a v (hmN a v) left at_ path best y.1) y.2.2) (fun y => a.length - y.1) (0, [], h.putM m [])
      ⟨Nat.zero_le _, (fun y => ⟨fun hh => by simp at hh, fun ⟨j, hj, _⟩ => absurd hj (Nat.not_lt_zero _)⟩), x, k.map m []⟩ (GStep.forget (by repeat' first | exact EnvLe.nil _ | refine EnvLe.cons (AV.le.of_eq rfl) ?_ | refine EnvLe.cons (AV.le.undef _) ?_ | refine EnvLe.cons AV.le.unk ?_) (by repeat' first | exact AH.le.refl _ | assumption | (refine AH.le_put ?_ (by first | assumption | exact (AH.blk_put_ne _ _ (by assumption)).trans (by assumption) | exact AH.none_put (by assumption) | exact AH.none_put (AH.none_put (by assumption)) | (simp only [AH.blk_setTok, AH.tok_put] at *; first | assumption | exact AH.none_put (by assumption)))) | (refine AH.le_setTok ?_ (by first | assumption | exact (AH.blk_put_ne _ _ (by assumption)).trans (by assumption) | exact AH.none_put (by assumption) | exact AH.none_put (AH.none_put (by assumption)) | (simp only [AH.blk_setTok, AH.tok_put] at *; first | assumption | exact AH.none_put (by assumption)))) | (refine AH.le_putM ?_ (by first | assumption | exact (AH.mp_putM_ne _ _ (by assumption)).trans (by assumption) | (simp only [AH.mp_put, AH.mp_setTok] at *; assumption))))) fun y hy => .of_vg hm ?_
    obtain ⟨i, ts, g⟩ := y
    obtain ⟨h1, h2, x, k⟩ := hy
    simp only at h1 h2 k ⊢
    by_cases h8 : i < a.length
    case neg =>
      have h8 : i = a.length := by omega
      subst h8
      simp only [F_contradiction_search_extend, g_contradiction_search_extend, go_sem, reduceIte, Nat.reduceEqDiff, Nat.reduceAdd, Nat.reduceMul, Nat.reduceSub, reduceCtorEq, Nat.reduceLeDiff, Nat.reduceLT, Int.reduceLT, Int.reduceLE, Int.reduceToNat, Int.reduceAdd, Int.reduceSub, Int.reduceNeg, Int.reduceMul, Int.reduceEq, ← Bool.decide_and, ← Bool.decide_or, ↓tq_n, ↓tq_e, ↓tq_r, ↓bq_n, ↓bq_e, ↓bq_r, ↓rq_n, ↓rq_r, ↓rq_e]
      exact ⟨_, _, RGh.refl _ _, rfl, x, k.unmap hm0⟩
    have hcj : (i : Int) < (a.length : Int) := by omega
    obtain ⟨e1, e2, e3, e4⟩ := ev_k he h8
    have hcell := k.cell
    have hmp : g.mp m = some (keys ts) := k.le.mp _ _ (AH.mp_putM _ _ _)
    have hbh : g.blk bh = some (i64s (hmL n a v)) := k.le.blk _ _ hhm
    have hsucc := extK_succ a v (hmN a v) left at_ path best i
    by_cases c1 : fr a i = at_
    case neg =>
      have c1' : ¬ (fr a i : Int) = (at_ : Int) := by omega
      rw [if_neg (by rw [tk_fr c1]; decide)] at hsucc
      simp only [hcj, prs_drop h8, e1, c1', F_contradiction_search_extend, g_contradiction_search_extend, go_sem, reduceIte, Nat.reduceEqDiff, Nat.reduceAdd, Nat.reduceMul, Nat.reduceSub, reduceCtorEq, Nat.reduceLeDiff, Nat.reduceLT, Int.reduceLT, Int.reduceLE, Int.reduceToNat, Int.reduceAdd, Int.reduceSub, Int.reduceNeg, Int.reduceMul, Int.reduceEq, ← Bool.decide_and, ← Bool.decide_or, ↓tq_n, ↓tq_e, ↓tq_r, ↓bq_n, ↓bq_e, ↓bq_r, ↓rq_n, ↓rq_r, ↓rq_e]
      exact ⟨by rw [inR64]; omega, (i + 1, ts, g), ⟨by simp only; omega, trd_no h2 (fun hh => c1 hh.1), x, by rw [hsucc]; exact k⟩, by simp only; omega, (GStep.forget (by repeat' first | exact EnvLe.nil _ | refine EnvLe.cons (AV.le.of_eq rfl) ?_ | refine EnvLe.cons (AV.le.undef _) ?_ | refine EnvLe.cons AV.le.unk ?_) (by repeat' first | exact AH.le.refl _ | assumption | (refine AH.le_put ?_ (by first | assumption | exact (AH.blk_put_ne _ _ (by assumption)).trans (by assumption) | exact AH.none_put (by assumption) | exact AH.none_put (AH.none_put (by assumption)) | (simp only [AH.blk_setTok, AH.tok_put] at *; first | assumption | exact AH.none_put (by assumption)))) | (refine AH.le_setTok ?_ (by first | assumption | exact (AH.blk_put_ne _ _ (by assumption)).trans (by assumption) | exact AH.none_put (by assumption) | exact AH.none_put (AH.none_put (by assumption)) | (simp only [AH.blk_setTok, AH.tok_put] at *; first | assumption | exact AH.none_put (by assumption)))) | (refine AH.le_putM ?_ (by first | assumption | exact (AH.mp_putM_ne _ _ (by assumption)).trans (by assumption) | (simp only [AH.mp_put, AH.mp_setTok] at *; assumption)))))⟩
    by_cases c2 : v ≤ tt a i
    case neg =>
      have c1' : (fr a i : Int) = (at_ : Int) := by omega
      have c2' : (tt a i : Int) < (v : Int) := by omega
      rw [if_neg (by rw [tk_lo c2]; decide)] at hsucc
      simp only [hcj, prs_drop h8, e1, c1', c2', F_contradiction_search_extend, g_contradiction_search_extend, go_sem, reduceIte, Nat.reduceEqDiff, Nat.reduceAdd, Nat.reduceMul, Nat.reduceSub, reduceCtorEq, Nat.reduceLeDiff, Nat.reduceLT, Int.reduceLT, Int.reduceLE, Int.reduceToNat, Int.reduceAdd, Int.reduceSub, Int.reduceNeg, Int.reduceMul, Int.reduceEq, ← Bool.decide_and, ← Bool.decide_or, ↓tq_n, ↓tq_e, ↓tq_r, ↓bq_n, ↓bq_e, ↓bq_r, ↓rq_n, ↓rq_r, ↓rq_e]
      exact ⟨by rw [inR64]; omega, (i + 1, ts, g), ⟨by simp only; omega, trd_no h2 (fun hh => c2 hh.2.1), x, by rw [hsucc]; exact k⟩, by simp only; omega, (GStep.forget (by repeat' first | exact EnvLe.nil _ | refine EnvLe.cons (AV.le.of_eq rfl) ?_ | refine EnvLe.cons (AV.le.undef _) ?_ | refine EnvLe.cons AV.le.unk ?_) (by repeat' first | exact AH.le.refl _ | assumption | (refine AH.le_put ?_ (by first | assumption | exact (AH.blk_put_ne _ _ (by assumption)).trans (by assumption) | exact AH.none_put (by assumption) | exact AH.none_put (AH.none_put (by assumption)) | (simp only [AH.blk_setTok, AH.tok_put] at *; first | assumption | exact AH.none_put (by assumption)))) | (refine AH.le_setTok ?_ (by first | assumption | exact (AH.blk_put_ne _ _ (by assumption)).trans (by assumption) | exact AH.none_put (by assumption) | exact AH.none_put (AH.none_put (by assumption)) | (simp only [AH.blk_setTok, AH.tok_put] at *; first | assumption | exact AH.none_put (by assumption)))) | (refine AH.le_putM ?_ (by first | assumption | exact (AH.mp_putM_ne _ _ (by assumption)).trans (by assumption) | (simp only [AH.mp_put, AH.mp_setTok] at *; assumption)))))⟩
    have c1' : (fr a i : Int) = (at_ : Int) := by omega
    have c2' : ¬ (tt a i : Int) < (v : Int) := by omega
    by_cases c3 : (tt a i : Int) ∈ ts
    · rw [if_neg (by rw [tk_in h2 c3]; decide)] at hsucc
      have hfk := find_keys (tt a i) ts
      rw [if_pos c3] at hfk
      simp only [hcj, prs_drop h8, e1, c1', c2', hmp, hfk, Option.getD_some, F_contradiction_search_extend, g_contradiction_search_extend, go_sem, reduceIte, Nat.reduceEqDiff, Nat.reduceAdd, Nat.reduceMul, Nat.reduceSub, reduceCtorEq, Nat.reduceLeDiff, Nat.reduceLT, Int.reduceLT, Int.reduceLE, Int.reduceToNat, Int.reduceAdd, Int.reduceSub, Int.reduceNeg, Int.reduceMul, Int.reduceEq, ← Bool.decide_and, ← Bool.decide_or, ↓tq_n, ↓tq_e, ↓tq_r, ↓bq_n, ↓bq_e, ↓bq_r, ↓rq_n, ↓rq_r, ↓rq_e]
      exact ⟨by rw [inR64]; omega, (i + 1, ts, g), ⟨by simp only; omega, trd_no h2 (fun hh => hh.2.2 c3), x, by rw [hsucc]; exact k⟩, by simp only; omega, (GStep.forget (by repeat' first | exact EnvLe.nil _ | refine EnvLe.cons (AV.le.of_eq rfl) ?_ | refine EnvLe.cons (AV.le.undef _) ?_ | refine EnvLe.cons AV.le.unk ?_) (by repeat' first | exact AH.le.refl _ | assumption | (refine AH.le_put ?_ (by first | assumption | exact (AH.blk_put_ne _ _ (by assumption)).trans (by assumption) | exact AH.none_put (by assumption) | exact AH.none_put (AH.none_put (by assumption)) | (simp only [AH.blk_setTok, AH.tok_put] at *; first | assumption | exact AH.none_put (by assumption)))) | (refine AH.le_setTok ?_ (by first | assumption | exact (AH.blk_put_ne _ _ (by assumption)).trans (by assumption) | exact AH.none_put (by assumption) | exact AH.none_put (AH.none_put (by assumption)) | (simp only [AH.blk_setTok, AH.tok_put] at *; first | assumption | exact AH.none_put (by assumption)))) | (refine AH.le_putM ?_ (by first | assumption | exact (AH.mp_putM_ne _ _ (by assumption)).trans (by assumption) | (simp only [AH.mp_put, AH.mp_setTok] at *; assumption)))))⟩
    have hfk := find_keys (tt a i) ts
    rw [if_neg c3] at hfk
    have huk := upd_keys (k := (tt a i : Int)) (l := ts) c3
    have hty := trd_yes h2 c1 c2
    have k2 : SS (H0.putM m (keys (ts ++ [(tt a i : Int)]))) bs n (.sl n1 a.length (prs a) u1) (.msl bh 0 n (some n)) x path (extK a v (hmN a v) left at_ path best i) (g.putM m (keys (ts ++ [(tt a i : Int)]))) := by
      have := k.map m (keys (ts ++ [(tt a i : Int)]))
      rwa [AH.putM_putM] at this
    have hto : tt a i < (hmL n a v).length := by rw [hmL_len]; exact e3
    have hg1 := hmL_get (n := n) (a := a) (v := v) e3
    have ht0 : (0 : Int) ≤ (tt a i : Int) := by omega
    have htn : (tt a i : Int) < (n : Int) := by omega
    have hsub : ((left + 1 : Nat) : Int) - 1 = (left : Int) := by omega
    have hsub0 : ((path.length + 1 : Nat) : Int) - 1 = (path.length : Int) := by omega
    by_cases htk : tk a v (hmN a v) at_ (left + 1) i = true
    case neg =>
      rw [if_neg htk] at hsucc
      have fin : ∃ x, SS (H0.putM m (keys (ts ++ [(tt a i : Int)]))) bs n (.sl n1 a.length (prs a) u1) (.msl bh 0 n (some n)) x path (extK a v (hmN a v) left at_ path best (i + 1)) (g.putM m (keys (ts ++ [(tt a i : Int)]))) := ⟨x, by rw [hsucc]; exact k2⟩
      by_cases c4 : left = 0
      · have c4' : ((left + 1 : Nat) : Int) = 1 := by omega
        by_cases c5 : tt a i = v
        · exact absurd (tk_new h2 c1 c2 c3 (fun _ => c5) (fun hh => absurd (by omega) hh)) htk
        · have c5' : ¬ (tt a i : Int) = (v : Int) := by omega
          simp only [hcj, prs_drop h8, e1, c1', c2', hmp, hfk, Option.getD_none, huk, c4', c5', F_contradiction_search_extend, g_contradiction_search_extend, go_sem, reduceIte, Nat.reduceEqDiff, Nat.reduceAdd, Nat.reduceMul, Nat.reduceSub, reduceCtorEq, Nat.reduceLeDiff, Nat.reduceLT, Int.reduceLT, Int.reduceLE, Int.reduceToNat, Int.reduceAdd, Int.reduceSub, Int.reduceNeg, Int.reduceMul, Int.reduceEq, ← Bool.decide_and, ← Bool.decide_or, ↓tq_n, ↓tq_e, ↓tq_r, ↓bq_n, ↓bq_e, ↓bq_r, ↓rq_n, ↓rq_r, ↓rq_e]
          exact ⟨by rw [inR64]; omega, (i + 1, ts ++ [(tt a i : Int)], g.putM m (keys (ts ++ [(tt a i : Int)]))), ⟨by simp only; omega, hty, fin⟩, by simp only; omega, (GStep.forget (by repeat' first | exact EnvLe.nil _ | refine EnvLe.cons (AV.le.of_eq rfl) ?_ | refine EnvLe.cons (AV.le.undef _) ?_ | refine EnvLe.cons AV.le.unk ?_) (by repeat' first | exact AH.le.refl _ | assumption | (refine AH.le_put ?_ (by first | assumption | exact (AH.blk_put_ne _ _ (by assumption)).trans (by assumption) | exact AH.none_put (by assumption) | exact AH.none_put (AH.none_put (by assumption)) | (simp only [AH.blk_setTok, AH.tok_put] at *; first | assumption | exact AH.none_put (by assumption)))) | (refine AH.le_setTok ?_ (by first | assumption | exact (AH.blk_put_ne _ _ (by assumption)).trans (by assumption) | exact AH.none_put (by assumption) | exact AH.none_put (AH.none_put (by assumption)) | (simp only [AH.blk_setTok, AH.tok_put] at *; first | assumption | exact AH.none_put (by assumption)))) | (refine AH.le_putM ?_ (by first | assumption | exact (AH.mp_putM_ne _ _ (by assumption)).trans (by assumption) | (simp only [AH.mp_put, AH.mp_setTok] at *; assumption)))))⟩
      · have c4' : ¬ ((left + 1 : Nat) : Int) = 1 := by omega
        have c4'' : (1 : Int) < ((left + 1 : Nat) : Int) := by omega
        by_cases c5 : tt a i = v
        · have c5' : (tt a i : Int) = (v : Int) := by omega
          simp only [hcj, prs_drop h8, e1, c1', c2', hmp, hfk, Option.getD_none, huk, c4', c4'', decide_eq_true c5', F_contradiction_search_extend, g_contradiction_search_extend, go_sem, reduceIte, Nat.reduceEqDiff, Nat.reduceAdd, Nat.reduceMul, Nat.reduceSub, reduceCtorEq, Nat.reduceLeDiff, Nat.reduceLT, Int.reduceLT, Int.reduceLE, Int.reduceToNat, Int.reduceAdd, Int.reduceSub, Int.reduceNeg, Int.reduceMul, Int.reduceEq, ← Bool.decide_and, ← Bool.decide_or, ↓tq_n, ↓tq_e, ↓tq_r, ↓bq_n, ↓bq_e, ↓bq_r, ↓rq_n, ↓rq_r, ↓rq_e]
          exact ⟨by rw [inR64]; omega, (i + 1, ts ++ [(tt a i : Int)], g.putM m (keys (ts ++ [(tt a i : Int)]))), ⟨by simp only; omega, hty, fin⟩, by simp only; omega, (GStep.forget (by repeat' first | exact EnvLe.nil _ | refine EnvLe.cons (AV.le.of_eq rfl) ?_ | refine EnvLe.cons (AV.le.undef _) ?_ | refine EnvLe.cons AV.le.unk ?_) (by repeat' first | exact AH.le.refl _ | assumption | (refine AH.le_put ?_ (by first | assumption | exact (AH.blk_put_ne _ _ (by assumption)).trans (by assumption) | exact AH.none_put (by assumption) | exact AH.none_put (AH.none_put (by assumption)) | (simp only [AH.blk_setTok, AH.tok_put] at *; first | assumption | exact AH.none_put (by assumption)))) | (refine AH.le_setTok ?_ (by first | assumption | exact (AH.blk_put_ne _ _ (by assumption)).trans (by assumption) | exact AH.none_put (by assumption) | exact AH.none_put (AH.none_put (by assumption)) | (simp only [AH.blk_setTok, AH.tok_put] at *; first | assumption | exact AH.none_put (by assumption)))) | (refine AH.le_putM ?_ (by first | assumption | exact (AH.mp_putM_ne _ _ (by assumption)).trans (by assumption) | (simp only [AH.mp_put, AH.mp_setTok] at *; assumption)))))⟩
        · have c5' : ¬ (tt a i : Int) = (v : Int) := by omega
          have c6 : ¬ (hmN a v (tt a i) : Int) = (left : Int) := fun hh => htk (tk_new h2 c1 c2 c3 (fun hl => absurd hl (by omega)) (fun _ => ⟨c5, by omega⟩))
          simp only [hcj, prs_drop h8, e1, c1', c2', hmp, hfk, Option.getD_none, huk, c4', c4'', c5', hcell, AH.blk_putM, hbh, ht0, htn, i64s_drop hto, hg1, hsub, c6, F_contradiction_search_extend, g_contradiction_search_extend, go_sem, reduceIte, Nat.reduceEqDiff, Nat.reduceAdd, Nat.reduceMul, Nat.reduceSub, reduceCtorEq, Nat.reduceLeDiff, Nat.reduceLT, Int.reduceLT, Int.reduceLE, Int.reduceToNat, Int.reduceAdd, Int.reduceSub, Int.reduceNeg, Int.reduceMul, Int.reduceEq, ← Bool.decide_and, ← Bool.decide_or, ↓tq_n, ↓tq_e, ↓tq_r, ↓bq_n, ↓bq_e, ↓bq_r, ↓rq_n, ↓rq_r, ↓rq_e]
          exact ⟨by rw [inR64]; omega, by rw [inR64]; omega, (i + 1, ts ++ [(tt a i : Int)], g.putM m (keys (ts ++ [(tt a i : Int)]))), ⟨by simp only; omega, hty, fin⟩, by simp only; omega, (GStep.forget (by repeat' first | exact EnvLe.nil _ | refine EnvLe.cons (AV.le.of_eq rfl) ?_ | refine EnvLe.cons (AV.le.undef _) ?_ | refine EnvLe.cons AV.le.unk ?_) (by repeat' first | exact AH.le.refl _ | assumption | (refine AH.le_put ?_ (by first | assumption | exact (AH.blk_put_ne _ _ (by assumption)).trans (by assumption) | exact AH.none_put (by assumption) | exact AH.none_put (AH.none_put (by assumption)) | (simp only [AH.blk_setTok, AH.tok_put] at *; first | assumption | exact AH.none_put (by assumption)))) | (refine AH.le_setTok ?_ (by first | assumption | exact (AH.blk_put_ne _ _ (by assumption)).trans (by assumption) | exact AH.none_put (by assumption) | exact AH.none_put (AH.none_put (by assumption)) | (simp only [AH.blk_setTok, AH.tok_put] at *; first | assumption | exact AH.none_put (by assumption)))) | (refine AH.le_putM ?_ (by first | assumption | exact (AH.mp_putM_ne _ _ (by assumption)).trans (by assumption) | (simp only [AH.mp_put, AH.mp_setTok] at *; assumption)))))⟩
    rw [if_pos htk] at hsucc
    obtain ⟨_, _, _, t4, t5⟩ := tk_iff.1 htk
    have hcase : (((left + 1 : Nat) : Int) = 1 ∧ (tt a i : Int) = (v : Int)) ∨ (¬ ((left + 1 : Nat) : Int) = 1 ∧ (1 : Int) < ((left + 1 : Nat) : Int) ∧ ¬ (tt a i : Int) = (v : Int) ∧ (hmN a v (tt a i) : Int) = (left : Int)) := by
      by_cases c4 : left = 0
      · have := t4 (by omega); exact .inl ⟨by omega, by omega⟩
      · have := t5 (by omega); exact .inr ⟨by omega, by omega, by omega, by omega⟩
    rcases hcase with ⟨c4', c5'⟩ | ⟨c4', c4'', c5', c6⟩
    case' inl =>
      have c7 : ¬ (1 : Int) < ((left + 1 : Nat) : Int) := by omega
      simp only [c7, hcj, prs_drop h8, e1, c1', c2', hmp, hfk, Option.getD_none, huk, decide_eq_true c4', decide_eq_true c5', hcell, AH.blk_putM, F_contradiction_search_extend, g_contradiction_search_extend, go_sem, reduceIte, Nat.reduceEqDiff, Nat.reduceAdd, Nat.reduceMul, Nat.reduceSub, reduceCtorEq, Nat.reduceLeDiff, Nat.reduceLT, Int.reduceLT, Int.reduceLE, Int.reduceToNat, Int.reduceAdd, Int.reduceSub, Int.reduceNeg, Int.reduceMul, Int.reduceEq, ← Bool.decide_and, ← Bool.decide_or, ↓tq_n, ↓tq_e, ↓tq_r, ↓bq_n, ↓bq_e, ↓bq_r, ↓rq_n, ↓rq_r, ↓rq_e]
    case' inr =>
      simp only [hcj, prs_drop h8, e1, c1', c2', hmp, hfk, Option.getD_none, huk, c4', c4'', c5', hcell, AH.blk_putM, hbh, ht0, htn, i64s_drop hto, hg1, hsub, c6, F_contradiction_search_extend, g_contradiction_search_extend, go_sem, reduceIte, Nat.reduceEqDiff, Nat.reduceAdd, Nat.reduceMul, Nat.reduceSub, reduceCtorEq, Nat.reduceLeDiff, Nat.reduceLT, Int.reduceLT, Int.reduceLE, Int.reduceToNat, Int.reduceAdd, Int.reduceSub, Int.reduceNeg, Int.reduceMul, Int.reduceEq, ← Bool.decide_and, ← Bool.decide_or, ↓tq_n, ↓tq_e, ↓tq_r, ↓bq_n, ↓bq_e, ↓bq_r, ↓rq_n, ↓rq_r, ↓rq_e]
      refine ⟨by rw [inR64]; omega, ?_⟩
    all_goals
      refine k2.step (by omega) fun b q h' hc1 hs => ?_
      simp only [hc1, F_contradiction_search_extend, g_contradiction_search_extend, go_sem, reduceIte, Nat.reduceEqDiff, Nat.reduceAdd, Nat.reduceMul, Nat.reduceSub, reduceCtorEq, Nat.reduceLeDiff, Nat.reduceLT, Int.reduceLT, Int.reduceLE, Int.reduceToNat, Int.reduceAdd, Int.reduceSub, Int.reduceNeg, Int.reduceMul, Int.reduceEq, ← Bool.decide_and, ← Bool.decide_or, ↓tq_n, ↓tq_e, ↓tq_r, ↓bq_n, ↓bq_e, ↓bq_r, ↓rq_n, ↓rq_r, ↓rq_e]
      have hs2 := ih (tt a i) (path ++ [(i : Int)]) (extK a v (hmN a v) left at_ path best i) _ _ _ e3 (by simp; omega) (by simp; omega) (fun y hy => by
        rw [List.mem_append, List.mem_singleton] at hy
        rcases hy with hy | rfl
        · exact hpe y hy
        · omega) (by exact hhm) hs
      rw [hsub]
      refine ⟨by rw [inR64]; omega, CallS.mk hs2 fun r h'' hr => ?_⟩
      obtain ⟨rfl, x', hs3⟩ := hr
      obtain ⟨b2, q2, rfl, hq2, hs4⟩ := hs3.cut
      simp only [hs3.cell, hsub0, mslCut_zero, Option.getD_some, Nat.zero_mul, Nat.mul_one, Nat.sub_zero, F_contradiction_search_extend, g_contradiction_search_extend, go_sem, reduceIte, Nat.reduceEqDiff, Nat.reduceAdd, Nat.reduceMul, Nat.reduceSub, reduceCtorEq, Nat.reduceLeDiff, Nat.reduceLT, Int.reduceLT, Int.reduceLE, Int.reduceToNat, Int.reduceAdd, Int.reduceSub, Int.reduceNeg, Int.reduceMul, Int.reduceEq, ← Bool.decide_and, ← Bool.decide_or, ↓tq_n, ↓tq_e, ↓tq_r, ↓bq_n, ↓bq_e, ↓bq_r, ↓rq_n, ↓rq_r, ↓rq_e]
      refine ⟨by rw [inR64]; omega, by omega, Nat.zero_le _, by rw [inR64]; omega, (i + 1, ts ++ [(tt a i : Int)], h''.put bs [I n, .sl n1 a.length (prs a) u1, .msl bh 0 n (some n), .msl b2 0 path.length (some q2), bA (extF a v (hmN a v) left (tt a i) (path ++ [(i : Int)]) (extK a v (hmN a v) left at_ path best i))]), ⟨by simp only; omega, hty, _, by rw [hsucc]; exact hs4⟩, by simp only; omega, (GStep.forget (by repeat' first | exact EnvLe.nil _ | refine EnvLe.cons (AV.le.of_eq rfl) ?_ | refine EnvLe.cons (AV.le.undef _) ?_ | refine EnvLe.cons AV.le.unk ?_) (by repeat' first | exact AH.le.refl _ | assumption | (refine AH.le_put ?_ (by first | assumption | exact (AH.blk_put_ne _ _ (by assumption)).trans (by assumption) | exact AH.none_put (by assumption) | exact AH.none_put (AH.none_put (by assumption)) | (simp only [AH.blk_setTok, AH.tok_put] at *; first | assumption | exact AH.none_put (by assumption)))) | (refine AH.le_setTok ?_ (by first | assumption | exact (AH.blk_put_ne _ _ (by assumption)).trans (by assumption) | exact AH.none_put (by assumption) | exact AH.none_put (AH.none_put (by assumption)) | (simp only [AH.blk_setTok, AH.tok_put] at *; first | assumption | exact AH.none_put (by assumption)))) | (refine AH.le_putM ?_ (by first | assumption | exact (AH.mp_putM_ne _ _ (by assumption)).trans (by assumption) | (simp only [AH.mp_put, AH.mp_setTok] at *; assumption)))))⟩

theorem r_contradiction_Smallest (n : Int) (n1 : Bool) (a : List (Int × Int)) (u1 : Tail) (h : AH) : RCall Try.prog n_contradiction_Smallest [I n, .sl n1 a.length (prs a) u1] h (smV n a) := by
  refine RCall.of hm cF_contradiction_Smallest (by simp [g_contradiction_Smallest]) fun hw h' hl => ?_
  simp only [F_contradiction_Smallest, g_contradiction_Smallest, go_sem, reduceIte, Nat.reduceEqDiff, Nat.reduceAdd, Nat.reduceMul, Nat.reduceSub, reduceCtorEq, Nat.reduceLeDiff, Nat.reduceLT, Int.reduceLT, Int.reduceLE, Int.reduceToNat, Int.reduceAdd, Int.reduceSub, Int.reduceNeg, Int.reduceMul, Int.reduceEq, ← Bool.decide_and, ← Bool.decide_or, ↓tq_n, ↓tq_e, ↓tq_r, ↓bq_n, ↓bq_e, ↓bq_r, ↓rq_n, ↓rq_r, ↓rq_e]
  refine CallG.mk (r_contradiction_Valid n n1 a u1 _) ?_
  by_cases he : Ev n a
  case neg =>
    rw [decide_eq_false he]
    simp only [F_contradiction_Smallest, g_contradiction_Smallest, go_sem, reduceIte, Nat.reduceEqDiff, Nat.reduceAdd, Nat.reduceMul, Nat.reduceSub, reduceCtorEq, Nat.reduceLeDiff, Nat.reduceLT, Int.reduceLT, Int.reduceLE, Int.reduceToNat, Int.reduceAdd, Int.reduceSub, Int.reduceNeg, Int.reduceMul, Int.reduceEq, ← Bool.decide_and, ← Bool.decide_or, ↓tq_n, ↓tq_e, ↓tq_r, ↓bq_n, ↓bq_e, ↓bq_r, ↓rq_n, ↓rq_r, ↓rq_e]
    exact ret_ok (by simp [smV, he])
  rw [decide_eq_true he]
  obtain ⟨m, rfl⟩ := ev_nat he
  have ha := he.2.2.1
  have hn : m ≤ 24 := by have := he.2.1; omega
  simp only [F_contradiction_Smallest, g_contradiction_Smallest, go_sem, reduceIte, Nat.reduceEqDiff, Nat.reduceAdd, Nat.reduceMul, Nat.reduceSub, reduceCtorEq, Nat.reduceLeDiff, Nat.reduceLT, Int.reduceLT, Int.reduceLE, Int.reduceToNat, Int.reduceAdd, Int.reduceSub, Int.reduceNeg, Int.reduceMul, Int.reduceEq, ← Bool.decide_and, ← Bool.decide_or, ↓tq_n, ↓tq_e, ↓tq_r, ↓bq_n, ↓bq_e, ↓bq_r, ↓rq_n, ↓rq_r, ↓rq_e]
  refine AllocG.mk fun bs hbs => ?_
  simp only [F_contradiction_Smallest, g_contradiction_Smallest, go_sem, reduceIte, Nat.reduceEqDiff, Nat.reduceAdd, Nat.reduceMul, Nat.reduceSub, reduceCtorEq, Nat.reduceLeDiff, Nat.reduceLT, Int.reduceLT, Int.reduceLE, Int.reduceToNat, Int.reduceAdd, Int.reduceSub, Int.reduceNeg, Int.reduceMul, Int.reduceEq, ← Bool.decide_and, ← Bool.decide_or, ↓tq_n, ↓tq_e, ↓tq_r, ↓bq_n, ↓bq_e, ↓bq_r, ↓rq_n, ↓rq_r, ↓rq_e]
  refine awp_loop (α := Nat × AH) (fun y => [(0, I m), (1, .sl n1 a.length (prs a) u1), (6, .ptr bs 0), (17, I m), (18, I y.1)]) (fun y => y.2) (fun y => y.1 ≤ m ∧ ∃ hv x, SS h' bs m (.sl n1 a.length (prs a) u1) hv x [] (smF a y.1) y.2) (fun y => m - y.1) (0, h'.put bs [I m, .sl n1 a.length (prs a) u1, .sl true 0 [] .full, .sl true 0 [] .full, .sl true 0 [] .full])
    ⟨Nat.zero_le _, _, _, AH.le_put (.refl _) hbs, hbs, AH.blk_put _ _ _, .inl ⟨rfl, rfl⟩⟩ (GStep.forget (by repeat' first | exact EnvLe.nil _ | refine EnvLe.cons (AV.le.of_eq rfl) ?_ | refine EnvLe.cons (AV.le.undef _) ?_ | refine EnvLe.cons AV.le.unk ?_) (by repeat' first | exact AH.le.refl _ | assumption | (refine AH.le_put ?_ (by first | assumption | exact (AH.blk_put_ne _ _ (by assumption)).trans (by assumption) | exact AH.none_put (by assumption) | exact AH.none_put (AH.none_put (by assumption)) | (simp only [AH.blk_setTok, AH.tok_put] at *; first | assumption | exact AH.none_put (by assumption)))) | (refine AH.le_setTok ?_ (by first | assumption | exact (AH.blk_put_ne _ _ (by assumption)).trans (by assumption) | exact AH.none_put (by assumption) | exact AH.none_put (AH.none_put (by assumption)) | (simp only [AH.blk_setTok, AH.tok_put] at *; first | assumption | exact AH.none_put (by assumption)))) | (refine AH.le_putM ?_ (by first | assumption | exact (AH.mp_putM_ne _ _ (by assumption)).trans (by assumption) | (simp only [AH.mp_put, AH.mp_setTok] at *; assumption))))) fun y hy => .of_vg hm ?_
  obtain ⟨i, g⟩ := y
  obtain ⟨h1, hv, x, k⟩ := hy
  simp only at h1 k ⊢
  by_cases h2 : i < m
  case neg =>
    have h2 : i = m := by omega
    subst h2
    have hcell := k.cell
    cases hs : smF a i with
    | none =>
      rw [hs] at hcell
      simp only [hcell, bA, F_contradiction_Smallest, g_contradiction_Smallest, go_sem, reduceIte, Nat.reduceEqDiff, Nat.reduceAdd, Nat.reduceMul, Nat.reduceSub, reduceCtorEq, Nat.reduceLeDiff, Nat.reduceLT, Int.reduceLT, Int.reduceLE, Int.reduceToNat, Int.reduceAdd, Int.reduceSub, Int.reduceNeg, Int.reduceMul, Int.reduceEq, ← Bool.decide_and, ← Bool.decide_or, ↓tq_n, ↓tq_e, ↓tq_r, ↓bq_n, ↓bq_e, ↓bq_r, ↓rq_n, ↓rq_r, ↓rq_e]
      exact ret_hb k.le (by simp [smV, he, hs])
    | some s =>
      rw [hs] at hcell
      simp only [hcell, bA, F_contradiction_Smallest, g_contradiction_Smallest, go_sem, reduceIte, Nat.reduceEqDiff, Nat.reduceAdd, Nat.reduceMul, Nat.reduceSub, reduceCtorEq, Nat.reduceLeDiff, Nat.reduceLT, Int.reduceLT, Int.reduceLE, Int.reduceToNat, Int.reduceAdd, Int.reduceSub, Int.reduceNeg, Int.reduceMul, Int.reduceEq, ← Bool.decide_and, ← Bool.decide_or, ↓tq_n, ↓tq_e, ↓tq_r, ↓bq_n, ↓bq_e, ↓bq_r, ↓rq_n, ↓rq_r, ↓rq_e]
      exact ret_hb k.le (by simp [smV, he, hs])
  have hc : (i : Int) < (m : Int) := by omega
  have hi0 : (0 : Int) ≤ (i : Int) := by omega
  simp only [hc, F_contradiction_Smallest, g_contradiction_Smallest, go_sem, reduceIte, Nat.reduceEqDiff, Nat.reduceAdd, Nat.reduceMul, Nat.reduceSub, reduceCtorEq, Nat.reduceLeDiff, Nat.reduceLT, Int.reduceLT, Int.reduceLE, Int.reduceToNat, Int.reduceAdd, Int.reduceSub, Int.reduceNeg, Int.reduceMul, Int.reduceEq, ← Bool.decide_and, ← Bool.decide_or, ↓tq_n, ↓tq_e, ↓tq_r, ↓bq_n, ↓bq_e, ↓bq_r, ↓rq_n, ↓rq_r, ↓rq_e]
  refine CallS.mk (s_measure m n1 a u1 he i h2 bs hv x _ g k.cell) fun r g' hr => ?_
  obtain ⟨bh, hbh, rfl, rfl⟩ := hr
  have k2 := k.home hbh (.msl bh 0 m (some m)) (i64s (hmL m a i))
  have hbh0 := AH.none_of_le k.le hbh
  have hcell := k2.cell
  have hhm : ((g.put bs [I m, .sl n1 a.length (prs a) u1, .msl bh 0 m (some m), x, bA (smF a i)]).put bh (i64s (hmL m a i))).blk bh = some (i64s (hmL m a i)) := AH.blk_put _ _ _
  have hsm : smF a (i + 1) = if 0 < hmN a i i ∧ (∀ s, smF a i = some s → hmN a i i ≤ s.length) then extF a i (hmN a i) (hmN a i i) i [] (smF a i) else smF a i := rfl
  have hK := hmN_le he i i
  have hil : i < (hmL m a i).length := by rw [hmL_len]; exact h2
  have hg1 := hmL_get (n := m) (a := a) (v := i) h2
  generalize ((g.put bs [I m, .sl n1 a.length (prs a) u1, .msl bh 0 m (some m), x, bA (smF a i)]).put bh (i64s (hmL m a i))) = g2 at k2 hcell hhm ⊢
  have skip : smF a (i + 1) = smF a i → ∃ hv x, SS h' bs m (.sl n1 a.length (prs a) u1) hv x [] (smF a (i + 1)) g2 := fun e => ⟨_, x, by rw [e]; exact k2.unhome hbh0⟩
  by_cases c1 : 0 < hmN a i i
  case neg =>
    have c1' : ¬ (0 : Int) < (hmN a i i : Int) := by omega
    rw [if_neg (fun hh => c1 hh.1)] at hsm
    simp only [hcell, hc, hi0, hhm, i64s_drop hil, hg1, c1', F_contradiction_Smallest, g_contradiction_Smallest, go_sem, reduceIte, Nat.reduceEqDiff, Nat.reduceAdd, Nat.reduceMul, Nat.reduceSub, reduceCtorEq, Nat.reduceLeDiff, Nat.reduceLT, Int.reduceLT, Int.reduceLE, Int.reduceToNat, Int.reduceAdd, Int.reduceSub, Int.reduceNeg, Int.reduceMul, Int.reduceEq, ← Bool.decide_and, ← Bool.decide_or, ↓tq_n, ↓tq_e, ↓tq_r, ↓bq_n, ↓bq_e, ↓bq_r, ↓rq_n, ↓rq_r, ↓rq_e]
    exact ⟨by rw [inR64]; omega, (i + 1, g2), ⟨by simp only; omega, skip hsm⟩, by simp only; omega, (GStep.forget (by repeat' first | exact EnvLe.nil _ | refine EnvLe.cons (AV.le.of_eq rfl) ?_ | refine EnvLe.cons (AV.le.undef _) ?_ | refine EnvLe.cons AV.le.unk ?_) (by repeat' first | exact AH.le.refl _ | assumption | (refine AH.le_put ?_ (by first | assumption | exact (AH.blk_put_ne _ _ (by assumption)).trans (by assumption) | exact AH.none_put (by assumption) | exact AH.none_put (AH.none_put (by assumption)) | (simp only [AH.blk_setTok, AH.tok_put] at *; first | assumption | exact AH.none_put (by assumption)))) | (refine AH.le_setTok ?_ (by first | assumption | exact (AH.blk_put_ne _ _ (by assumption)).trans (by assumption) | exact AH.none_put (by assumption) | exact AH.none_put (AH.none_put (by assumption)) | (simp only [AH.blk_setTok, AH.tok_put] at *; first | assumption | exact AH.none_put (by assumption)))) | (refine AH.le_putM ?_ (by first | assumption | exact (AH.mp_putM_ne _ _ (by assumption)).trans (by assumption) | (simp only [AH.mp_put, AH.mp_setTok] at *; assumption)))))⟩
  have c1' : (0 : Int) < (hmN a i i : Int) := by omega
  by_cases c2 : ∀ s, smF a i = some s → hmN a i i ≤ s.length
  case neg =>
    rw [if_neg (fun hh => c2 hh.2)] at hsm
    cases hs : smF a i with
    | none => exact absurd (fun s e => by rw [hs] at e; cases e) c2
    | some s =>
      have c3 : ¬ (hmN a i i : Int) ≤ (s.length : Int) := fun hh => c2 fun t ht => by rw [hs] at ht; cases ht; omega
      rw [hs] at hcell
      simp only [hcell, hc, hi0, hhm, i64s_drop hil, hg1, c1', bA, c3, F_contradiction_Smallest, g_contradiction_Smallest, go_sem, reduceIte, Nat.reduceEqDiff, Nat.reduceAdd, Nat.reduceMul, Nat.reduceSub, reduceCtorEq, Nat.reduceLeDiff, Nat.reduceLT, Int.reduceLT, Int.reduceLE, Int.reduceToNat, Int.reduceAdd, Int.reduceSub, Int.reduceNeg, Int.reduceMul, Int.reduceEq, ← Bool.decide_and, ← Bool.decide_or, ↓tq_n, ↓tq_e, ↓tq_r, ↓bq_n, ↓bq_e, ↓bq_r, ↓rq_n, ↓rq_r, ↓rq_e]
      exact ⟨by rw [inR64]; omega, (i + 1, g2), ⟨by simp only; omega, skip hsm⟩, by simp only; omega, (GStep.forget (by repeat' first | exact EnvLe.nil _ | refine EnvLe.cons (AV.le.of_eq rfl) ?_ | refine EnvLe.cons (AV.le.undef _) ?_ | refine EnvLe.cons AV.le.unk ?_) (by repeat' first | exact AH.le.refl _ | assumption | (refine AH.le_put ?_ (by first | assumption | exact (AH.blk_put_ne _ _ (by assumption)).trans (by assumption) | exact AH.none_put (by assumption) | exact AH.none_put (AH.none_put (by assumption)) | (simp only [AH.blk_setTok, AH.tok_put] at *; first | assumption | exact AH.none_put (by assumption)))) | (refine AH.le_setTok ?_ (by first | assumption | exact (AH.blk_put_ne _ _ (by assumption)).trans (by assumption) | exact AH.none_put (by assumption) | exact AH.none_put (AH.none_put (by assumption)) | (simp only [AH.blk_setTok, AH.tok_put] at *; first | assumption | exact AH.none_put (by assumption)))) | (refine AH.le_putM ?_ (by first | assumption | exact (AH.mp_putM_ne _ _ (by assumption)).trans (by assumption) | (simp only [AH.mp_put, AH.mp_setTok] at *; assumption)))))⟩
  rw [if_pos ⟨c1, c2⟩] at hsm
  have hx := s_extend m n1 a u1 he i h2 bs bh (hmN a i i) i [] (smF a i) x g2 _ h2 (by simp; omega) (by simpa using c1) (by simp) (AH.blk_put _ _ _) k2
  cases hs : smF a i with
  | none =>
    rw [hs] at hcell
    simp only [hcell, hc, hi0, hhm, i64s_drop hil, hg1, c1', bA, F_contradiction_Smallest, g_contradiction_Smallest, go_sem, reduceIte, Nat.reduceEqDiff, Nat.reduceAdd, Nat.reduceMul, Nat.reduceSub, reduceCtorEq, Nat.reduceLeDiff, Nat.reduceLT, Int.reduceLT, Int.reduceLE, Int.reduceToNat, Int.reduceAdd, Int.reduceSub, Int.reduceNeg, Int.reduceMul, Int.reduceEq, ← Bool.decide_and, ← Bool.decide_or, ↓tq_n, ↓tq_e, ↓tq_r, ↓bq_n, ↓bq_e, ↓bq_r, ↓rq_n, ↓rq_r, ↓rq_e]
    refine CallS.mk hx fun r g3 hr => ?_
    obtain ⟨rfl, x', hs3⟩ := hr
    simp only [F_contradiction_Smallest, g_contradiction_Smallest, go_sem, reduceIte, Nat.reduceEqDiff, Nat.reduceAdd, Nat.reduceMul, Nat.reduceSub, reduceCtorEq, Nat.reduceLeDiff, Nat.reduceLT, Int.reduceLT, Int.reduceLE, Int.reduceToNat, Int.reduceAdd, Int.reduceSub, Int.reduceNeg, Int.reduceMul, Int.reduceEq, ← Bool.decide_and, ← Bool.decide_or, ↓tq_n, ↓tq_e, ↓tq_r, ↓bq_n, ↓bq_e, ↓bq_r, ↓rq_n, ↓rq_r, ↓rq_e]
    exact ⟨by rw [inR64]; omega, (i + 1, g3), ⟨by simp only; omega, _, x', by rw [hsm]; exact hs3.unhome hbh0⟩, by simp only; omega, (GStep.forget (by repeat' first | exact EnvLe.nil _ | refine EnvLe.cons (AV.le.of_eq rfl) ?_ | refine EnvLe.cons (AV.le.undef _) ?_ | refine EnvLe.cons AV.le.unk ?_) (by repeat' first | exact AH.le.refl _ | assumption | (refine AH.le_put ?_ (by first | assumption | exact (AH.blk_put_ne _ _ (by assumption)).trans (by assumption) | exact AH.none_put (by assumption) | exact AH.none_put (AH.none_put (by assumption)) | (simp only [AH.blk_setTok, AH.tok_put] at *; first | assumption | exact AH.none_put (by assumption)))) | (refine AH.le_setTok ?_ (by first | assumption | exact (AH.blk_put_ne _ _ (by assumption)).trans (by assumption) | exact AH.none_put (by assumption) | exact AH.none_put (AH.none_put (by assumption)) | (simp only [AH.blk_setTok, AH.tok_put] at *; first | assumption | exact AH.none_put (by assumption)))) | (refine AH.le_putM ?_ (by first | assumption | exact (AH.mp_putM_ne _ _ (by assumption)).trans (by assumption) | (simp only [AH.mp_put, AH.mp_setTok] at *; assumption)))))⟩
  | some s =>
    have c3 : (hmN a i i : Int) ≤ (s.length : Int) := by have := c2 s hs; omega
    rw [hs] at hcell
    simp only [hcell, hc, hi0, hhm, i64s_drop hil, hg1, c1', bA, c3, F_contradiction_Smallest, g_contradiction_Smallest, go_sem, reduceIte, Nat.reduceEqDiff, Nat.reduceAdd, Nat.reduceMul, Nat.reduceSub, reduceCtorEq, Nat.reduceLeDiff, Nat.reduceLT, Int.reduceLT, Int.reduceLE, Int.reduceToNat, Int.reduceAdd, Int.reduceSub, Int.reduceNeg, Int.reduceMul, Int.reduceEq, ← Bool.decide_and, ← Bool.decide_or, ↓tq_n, ↓tq_e, ↓tq_r, ↓bq_n, ↓bq_e, ↓bq_r, ↓rq_n, ↓rq_r, ↓rq_e]
    refine CallS.mk hx fun r g3 hr => ?_
    obtain ⟨rfl, x', hs3⟩ := hr
    simp only [F_contradiction_Smallest, g_contradiction_Smallest, go_sem, reduceIte, Nat.reduceEqDiff, Nat.reduceAdd, Nat.reduceMul, Nat.reduceSub, reduceCtorEq, Nat.reduceLeDiff, Nat.reduceLT, Int.reduceLT, Int.reduceLE, Int.reduceToNat, Int.reduceAdd, Int.reduceSub, Int.reduceNeg, Int.reduceMul, Int.reduceEq, ← Bool.decide_and, ← Bool.decide_or, ↓tq_n, ↓tq_e, ↓tq_r, ↓bq_n, ↓bq_e, ↓bq_r, ↓rq_n, ↓rq_r, ↓rq_e]
    exact ⟨by rw [inR64]; omega, (i + 1, g3), ⟨by simp only; omega, _, x', by rw [hsm]; exact hs3.unhome hbh0⟩, by simp only; omega, (GStep.forget (by repeat' first | exact EnvLe.nil _ | refine EnvLe.cons (AV.le.of_eq rfl) ?_ | refine EnvLe.cons (AV.le.undef _) ?_ | refine EnvLe.cons AV.le.unk ?_) (by repeat' first | exact AH.le.refl _ | assumption | (refine AH.le_put ?_ (by first | assumption | exact (AH.blk_put_ne _ _ (by assumption)).trans (by assumption) | exact AH.none_put (by assumption) | exact AH.none_put (AH.none_put (by assumption)) | (simp only [AH.blk_setTok, AH.tok_put] at *; first | assumption | exact AH.none_put (by assumption)))) | (refine AH.le_setTok ?_ (by first | assumption | exact (AH.blk_put_ne _ _ (by assumption)).trans (by assumption) | exact AH.none_put (by assumption) | exact AH.none_put (AH.none_put (by assumption)) | (simp only [AH.blk_setTok, AH.tok_put] at *; first | assumption | exact AH.none_put (by assumption)))) | (refine AH.le_putM ?_ (by first | assumption | exact (AH.mp_putM_ne _ _ (by assumption)).trans (by assumption) | (simp only [AH.mp_put, AH.mp_setTok] at *; assumption)))))⟩
end Go.Proofs.Ytemfmnjhhdeedaa
