/- Calls of functions of this seat's program: the search for a shortest cycle. No condition. -/
import Derived.Test.YtgfidbejffhalaaD8
import Derived.Test.YtgfidbejffhalaaG3
namespace Go.Proofs.Ytgfidbejffhalaa
open Go Go.Abs
set_option linter.unusedSimpArgs false
set_option linter.unusedVariables false
set_option maxRecDepth 20000

theorem r_cmp_isNaN_int (a : Int) (h : AH) : RCall Try.prog n_cmp_isNaN_int [I a] h (.bool false) := by
  refine RCall.of hm cF_cmp_isNaN_int (by simp [g_cmp_isNaN_int]) fun hw h' hl => ?_
  simp only [F_cmp_isNaN_int, g_cmp_isNaN_int, go_sem, reduceIte, Nat.reduceEqDiff, Nat.reduceAdd, Nat.reduceMul, Nat.reduceSub, reduceCtorEq, Nat.reduceLeDiff, Nat.reduceLT, Int.reduceLT, Int.reduceLE, Int.reduceToNat, Int.reduceAdd, Int.reduceSub, Int.reduceNeg, Int.reduceMul, Int.reduceEq, ← Bool.decide_and, ← Bool.decide_or, ↓tq_n, ↓tq_e, ↓tq_r, ↓bq_n, ↓bq_e, ↓bq_r, ↓rq_n, ↓rq_r, ↓rq_e]
  exact ret_ok (by simp)
/-- How two numbers compare. -/
def cmpI (a b : Int) : Int := if a < b then -1 else if b < a then 1 else 0
theorem r_cmp_Compare_int (a b : Int) (h : AH) : RCall Try.prog n_cmp_Compare_int [I a, I b] h (I (cmpI a b)) := by
  refine RCall.of hm cF_cmp_Compare_int (by simp [g_cmp_Compare_int]) fun hw h' hl => ?_
  simp only [F_cmp_Compare_int, g_cmp_Compare_int, go_sem, reduceIte, Nat.reduceEqDiff, Nat.reduceAdd, Nat.reduceMul, Nat.reduceSub, reduceCtorEq, Nat.reduceLeDiff, Nat.reduceLT, Int.reduceLT, Int.reduceLE, Int.reduceToNat, Int.reduceAdd, Int.reduceSub, Int.reduceNeg, Int.reduceMul, Int.reduceEq, ← Bool.decide_and, ← Bool.decide_or, ↓tq_n, ↓tq_e, ↓tq_r, ↓bq_n, ↓bq_e, ↓bq_r, ↓rq_n, ↓rq_r, ↓rq_e]
  refine CallG.mk (r_cmp_isNaN_int a _) ?_
  simp only [F_cmp_Compare_int, g_cmp_Compare_int, go_sem, reduceIte, Nat.reduceEqDiff, Nat.reduceAdd, Nat.reduceMul, Nat.reduceSub, reduceCtorEq, Nat.reduceLeDiff, Nat.reduceLT, Int.reduceLT, Int.reduceLE, Int.reduceToNat, Int.reduceAdd, Int.reduceSub, Int.reduceNeg, Int.reduceMul, Int.reduceEq, ← Bool.decide_and, ← Bool.decide_or, ↓tq_n, ↓tq_e, ↓tq_r, ↓bq_n, ↓bq_e, ↓bq_r, ↓rq_n, ↓rq_r, ↓rq_e]
  refine CallG.mk (r_cmp_isNaN_int b _) ?_
  simp only [F_cmp_Compare_int, g_cmp_Compare_int, go_sem, reduceIte, Nat.reduceEqDiff, Nat.reduceAdd, Nat.reduceMul, Nat.reduceSub, reduceCtorEq, Nat.reduceLeDiff, Nat.reduceLT, Int.reduceLT, Int.reduceLE, Int.reduceToNat, Int.reduceAdd, Int.reduceSub, Int.reduceNeg, Int.reduceMul, Int.reduceEq, ← Bool.decide_and, ← Bool.decide_or, ↓tq_n, ↓tq_e, ↓tq_r, ↓bq_n, ↓bq_e, ↓bq_r, ↓rq_n, ↓rq_r, ↓rq_e]
  refine ⟨fun h1 => ret_ok (by simp [cmpI, h1]), fun h1 => ⟨fun h2 => ret_ok ?_, fun h2 => ret_ok ?_⟩⟩
  · have : ¬ a < b := h1
    simp [cmpI, h1, h2]
  · simp [cmpI, h1, h2]
theorem r_slices_Compare_int (nl1 : Bool) (s : List Int) (tl1 : Tail) (nl2 : Bool) (t : List Int) (tl2 : Tail) (h : AH) :
    RCall Try.prog n_slices_Compare_int [.sl nl1 s.length (i64s s) tl1, .sl nl2 t.length (i64s t) tl2] h (I (cmpL s t)) := by
  refine RCall.of hm cF_slices_Compare_int (by simp [g_slices_Compare_int]) fun hw h' hl => ?_
  have hx := wf_len (hw _ (.head _))
  simp only [F_slices_Compare_int, g_slices_Compare_int, go_sem, reduceIte, Nat.reduceEqDiff, Nat.reduceAdd, Nat.reduceMul, Nat.reduceSub, reduceCtorEq, Nat.reduceLeDiff, Nat.reduceLT, Int.reduceLT, Int.reduceLE, Int.reduceToNat, Int.reduceAdd, Int.reduceSub, Int.reduceNeg, Int.reduceMul, Int.reduceEq, ← Bool.decide_and, ← Bool.decide_or, ↓tq_n, ↓tq_e, ↓tq_r, ↓bq_n, ↓bq_e, ↓bq_r, ↓rq_n, ↓rq_r, ↓rq_e]
  refine awp_loop (fun i : Nat => [(0, .sl nl1 s.length (i64s s) tl1), (1, .sl nl2 t.length (i64s t) tl2), (9, .sl nl1 s.length (i64s s) tl1), (10, I s.length), (11, I i)]) (fun _ => h') (fun i => i ≤ s.length ∧ i ≤ t.length ∧ cmpL s t = cmpL (s.drop i) (t.drop i)) (fun i => s.length - i) 0 ⟨Nat.zero_le _, Nat.zero_le _, rfl⟩ (GStep.forget (by repeat' first | exact EnvLe.nil _ | refine EnvLe.cons (AV.le.of_eq rfl) ?_ | refine EnvLe.cons (AV.le.undef _) ?_ | refine EnvLe.cons AV.le.unk ?_) (by repeat' first | exact AH.le.refl _ | assumption | (refine AH.le_put ?_ (by first | assumption | exact (AH.blk_put_ne _ _ (by assumption)).trans (by assumption) | exact AH.none_put (by assumption) | exact AH.none_put (AH.none_put (by assumption)) | (simp only [AH.blk_setTok, AH.tok_put] at *; first | assumption | exact AH.none_put (by assumption)))) | (refine AH.le_setTok ?_ (by first | assumption | exact (AH.blk_put_ne _ _ (by assumption)).trans (by assumption) | exact AH.none_put (by assumption) | exact AH.none_put (AH.none_put (by assumption)) | (simp only [AH.blk_setTok, AH.tok_put] at *; first | assumption | exact AH.none_put (by assumption)))) | (refine AH.le_putM ?_ (by first | assumption | exact (AH.mp_putM_ne _ _ (by assumption)).trans (by assumption) | (simp only [AH.mp_put, AH.mp_setTok] at *; assumption))))) fun i hi => .of_vg hm ?_
  obtain ⟨h1, h2, h3⟩ := hi
  by_cases h4 : i < s.length
  · have hc : (i : Int) < (s.length : Int) := by omega
    have d1 := getD_drop s 0 h4
    by_cases h5 : i < t.length
    · have hc2 : ¬ (t.length : Int) ≤ (i : Int) := by omega
      have hc3 : (i : Int) < (t.length : Int) := by omega
      have d2 := getD_drop t 0 h5
      simp only [hc, i64s_drop h4, hc2, hc3, i64s_drop h5, F_slices_Compare_int, g_slices_Compare_int, go_sem, reduceIte, Nat.reduceEqDiff, Nat.reduceAdd, Nat.reduceMul, Nat.reduceSub, reduceCtorEq, Nat.reduceLeDiff, Nat.reduceLT, Int.reduceLT, Int.reduceLE, Int.reduceToNat, Int.reduceAdd, Int.reduceSub, Int.reduceNeg, Int.reduceMul, Int.reduceEq, ← Bool.decide_and, ← Bool.decide_or, ↓tq_n, ↓tq_e, ↓tq_r, ↓bq_n, ↓bq_e, ↓bq_r, ↓rq_n, ↓rq_r, ↓rq_e]
      refine CallG.mk (r_cmp_Compare_int _ _ _) ?_
      rw [d1, d2] at h3
      simp only [cmpL] at h3
      unfold cmpI
      by_cases c1 : s.getD i 0 < t.getD i 0
      · rw [if_pos c1] at h3
        rw [if_pos c1]
        simp only [F_slices_Compare_int, g_slices_Compare_int, go_sem, reduceIte, Nat.reduceEqDiff, Nat.reduceAdd, Nat.reduceMul, Nat.reduceSub, reduceCtorEq, Nat.reduceLeDiff, Nat.reduceLT, Int.reduceLT, Int.reduceLE, Int.reduceToNat, Int.reduceAdd, Int.reduceSub, Int.reduceNeg, Int.reduceMul, Int.reduceEq, ← Bool.decide_and, ← Bool.decide_or, ↓tq_n, ↓tq_e, ↓tq_r, ↓bq_n, ↓bq_e, ↓bq_r, ↓rq_n, ↓rq_r, ↓rq_e]
        exact ret_ok (by rw [h3])
      · rw [if_neg c1] at h3
        rw [if_neg c1]
        by_cases c2 : t.getD i 0 < s.getD i 0
        · rw [if_pos c2] at h3
          rw [if_pos c2]
          simp only [F_slices_Compare_int, g_slices_Compare_int, go_sem, reduceIte, Nat.reduceEqDiff, Nat.reduceAdd, Nat.reduceMul, Nat.reduceSub, reduceCtorEq, Nat.reduceLeDiff, Nat.reduceLT, Int.reduceLT, Int.reduceLE, Int.reduceToNat, Int.reduceAdd, Int.reduceSub, Int.reduceNeg, Int.reduceMul, Int.reduceEq, ← Bool.decide_and, ← Bool.decide_or, ↓tq_n, ↓tq_e, ↓tq_r, ↓bq_n, ↓bq_e, ↓bq_r, ↓rq_n, ↓rq_r, ↓rq_e]
          exact ret_ok (by rw [h3])
        · rw [if_neg c2] at h3
          rw [if_neg c2]
          simp only [F_slices_Compare_int, g_slices_Compare_int, go_sem, reduceIte, Nat.reduceEqDiff, Nat.reduceAdd, Nat.reduceMul, Nat.reduceSub, reduceCtorEq, Nat.reduceLeDiff, Nat.reduceLT, Int.reduceLT, Int.reduceLE, Int.reduceToNat, Int.reduceAdd, Int.reduceSub, Int.reduceNeg, Int.reduceMul, Int.reduceEq, ← Bool.decide_and, ← Bool.decide_or, ↓tq_n, ↓tq_e, ↓tq_r, ↓bq_n, ↓bq_e, ↓bq_r, ↓rq_n, ↓rq_r, ↓rq_e]
          exact ⟨by rw [inR64]; omega, i + 1, ⟨by omega, by omega, h3⟩, by omega, (GStep.forget (by repeat' first | exact EnvLe.nil _ | refine EnvLe.cons (AV.le.of_eq rfl) ?_ | refine EnvLe.cons (AV.le.undef _) ?_ | refine EnvLe.cons AV.le.unk ?_) (by repeat' first | exact AH.le.refl _ | assumption | (refine AH.le_put ?_ (by first | assumption | exact (AH.blk_put_ne _ _ (by assumption)).trans (by assumption) | exact AH.none_put (by assumption) | exact AH.none_put (AH.none_put (by assumption)) | (simp only [AH.blk_setTok, AH.tok_put] at *; first | assumption | exact AH.none_put (by assumption)))) | (refine AH.le_setTok ?_ (by first | assumption | exact (AH.blk_put_ne _ _ (by assumption)).trans (by assumption) | exact AH.none_put (by assumption) | exact AH.none_put (AH.none_put (by assumption)) | (simp only [AH.blk_setTok, AH.tok_put] at *; first | assumption | exact AH.none_put (by assumption)))) | (refine AH.le_putM ?_ (by first | assumption | exact (AH.mp_putM_ne _ _ (by assumption)).trans (by assumption) | (simp only [AH.mp_put, AH.mp_setTok] at *; assumption)))))⟩
    · have h6 : i = t.length := by omega
      have hc2 : (t.length : Int) ≤ (i : Int) := by omega
      simp only [hc, i64s_drop h4, hc2, F_slices_Compare_int, g_slices_Compare_int, go_sem, reduceIte, Nat.reduceEqDiff, Nat.reduceAdd, Nat.reduceMul, Nat.reduceSub, reduceCtorEq, Nat.reduceLeDiff, Nat.reduceLT, Int.reduceLT, Int.reduceLE, Int.reduceToNat, Int.reduceAdd, Int.reduceSub, Int.reduceNeg, Int.reduceMul, Int.reduceEq, ← Bool.decide_and, ← Bool.decide_or, ↓tq_n, ↓tq_e, ↓tq_r, ↓bq_n, ↓bq_e, ↓bq_r, ↓rq_n, ↓rq_r, ↓rq_e]
      refine ret_ok ?_
      rw [h3, d1, List.drop_of_length_le (l := t) (by omega)]
      rfl
  · have h6 : i = s.length := by omega
    subst h6
    simp only [F_slices_Compare_int, g_slices_Compare_int, go_sem, reduceIte, Nat.reduceEqDiff, Nat.reduceAdd, Nat.reduceMul, Nat.reduceSub, reduceCtorEq, Nat.reduceLeDiff, Nat.reduceLT, Int.reduceLT, Int.reduceLE, Int.reduceToNat, Int.reduceAdd, Int.reduceSub, Int.reduceNeg, Int.reduceMul, Int.reduceEq, ← Bool.decide_and, ← Bool.decide_or, ↓tq_n, ↓tq_e, ↓tq_r, ↓bq_n, ↓bq_e, ↓bq_r, ↓rq_n, ↓rq_r, ↓rq_e]
    rw [List.drop_of_length_le (l := s) (Nat.le_refl _)] at h3
    refine ⟨fun hlt => ret_ok ?_, fun hge => ret_ok ?_⟩
    · rw [h3, getD_drop t 0 (i := s.length) (by omega)]
      rfl
    · rw [h3, List.drop_of_length_le (l := t) (by omega)]
      rfl

/-- The best set so far. -/
def bA : Option (List Int) → AV
  | none => .sl true 0 [] .full
  | some s => .sl false s.length (i64s s) .unk
/-- The path, a list that is kept in memory. -/
def Pb (H0 : AH) (bs : Nat) (x : AV) (xs : List Int) (h : AH) : Prop :=
  (x = .sl true 0 [] .full ∧ xs = []) ∨ ∃ b q more, x = .msl b 0 xs.length (some q) ∧ b ≠ bs ∧ H0.blk b = none ∧ h.blk b = some (i64s xs ++ more) ∧ xs.length + more.length = q
/-- The state of the search. -/
structure SS (H0 : AH) (bs n : Nat) (A hv x : AV) (xs : List Int) (best : Option (List Int)) (h : AH) : Prop where
  le : H0.le h
  n0 : H0.blk bs = none
  cell : h.blk bs = some [I n, A, hv, x, bA best]
  pb : Pb H0 bs x xs h
variable {H0 h : AH} {bs n : Nat} {A hv x : AV} {xs : List Int} {best : Option (List Int)}
theorem AH.le_putM2 {h h' : AH} {m : Nat} {es : List (AV × AV)} (hl : h.le h') : (h.putM m es).le (h'.putM m es) := by
  refine ⟨hl.blk, hl.tok, fun b c e => ?_⟩
  show (if b = m then _ else _) = _
  have e : (if b = m then some es else h.mp b) = some c := e
  split
  · rename_i hb; rw [if_pos hb] at e; exact e
  · rename_i hb; rw [if_neg hb] at e; exact hl.mp _ _ e
theorem SS.map (k : SS H0 bs n A hv x xs best h) (m : Nat) (es : List (AV × AV)) : SS (H0.putM m es) bs n A hv x xs best (h.putM m es) :=
  ⟨AH.le_putM2 k.le, k.n0, k.cell, k.pb⟩
theorem SS.unmap {m : Nat} {es : List (AV × AV)} (k : SS (H0.putM m es) bs n A hv x xs best h) (hm : H0.mp m = none) : SS H0 bs n A hv x xs best h :=
  ⟨(AH.le_putM (AH.le.refl _) hm).trans k.le, k.n0, k.cell, k.pb⟩
/-- The path grows. -/
theorem SS.step (k : SS H0 bs n A hv x xs best h) (hl : xs.length ≤ 1000) {v : Int} {KS : AV → AH → Prop}
    (hk : ∀ b q h', h'.blk bs = some [I n, A, hv, x, bA best] → SS H0 bs n A hv (.msl b 0 (xs.length + 1) (some q)) (xs ++ [v]) best (h'.put bs [I n, A, hv, .msl b 0 (xs.length + 1) (some q), bA best]) → KS (.msl b 0 (xs.length + 1) (some q)) h') :
    AiS h 1 8 x (.sl false 1 [I v] .full) (c := ⟨KS⟩) := by
  have fin : ∀ b q cells h', b ≠ bs → H0.blk b = none → H0.le h' → h'.blk bs = some [I n, A, hv, x, bA best] → h'.blk b = some cells → (∃ more, cells = i64s (xs ++ [v]) ++ more ∧ xs.length + 1 + more.length = q) → KS (.msl b 0 (xs.length + 1) (some q)) h' := by
    intro b q cells h' h1 h2 h3 h4 h5 ⟨more, h6, h7⟩
    refine hk _ _ _ h4 ⟨AH.le_put h3 k.n0, k.n0, AH.blk_put _ _ _, .inr ⟨b, q, more, by simp, h1, h2, ?_, by simpa using h7⟩⟩
    rw [AH.blk_put_ne _ _ h1, h5, h6]
  rcases k.pb with ⟨rfl, rfl⟩ | ⟨b, q, more, rfl, hne, hn, hb, hq⟩
  · rw [aiS_full, rg_sl]
    refine ⟨rfl, rfl, by omega, by omega, by omega, GrowG.mk fun b q hq hb => ?_⟩
    have hbb : b ≠ bs := fun hh => by subst hh; rw [k.cell] at hb; cases hb
    refine fin b q _ _ hbb (AH.none_of_le k.le hb) (AH.le_put k.le (AH.none_of_le k.le hb)) ((AH.blk_put_ne _ _ (fun hh => hbb hh.symm)).trans k.cell) (AH.blk_put _ _ _) ⟨List.replicate (q - 1) .undef, by simp [i64s], by simp; omega⟩
  · rw [aiS_msl, rg_sl, hb, BlkG_some]
    have hlen : (i64s xs ++ more).length = q := by rw [List.length_append, i64s_len]; omega
    refine ⟨rfl, by omega, by omega, by rw [hlen]; omega, fun h1 => ⟨by rw [hlen]; omega, ?_⟩, fun h1 => GrowG.mk fun b' q' hq' hb' => ?_⟩
    · refine fin b q _ _ hne hn (AH.le_put k.le hn) ((AH.blk_put_ne _ _ (fun hh => hne hh.symm)).trans k.cell) (AH.blk_put _ _ _) ⟨more.drop 1, ?_, by simp; omega⟩
      rw [Nat.zero_add, Nat.mul_one, spl_eq _ _ _ (by rw [hlen]; simp only [List.length_singleton]; omega)]
      have e1 : (i64s xs ++ more).take xs.length = i64s xs := by
        rw [List.take_append_of_le_length (by rw [i64s_len]; exact Nat.le_refl _), List.take_of_length_le (by rw [i64s_len]; exact Nat.le_refl _)]
      have e2 : (i64s xs ++ more).drop (xs.length + 1) = more.drop 1 := by
        rw [List.drop_append, List.drop_of_length_le (by rw [i64s_len]; omega), i64s_len, List.nil_append]
        congr 1
        omega
      simp only [List.length_singleton, e1, e2, i64s_append, i64s_one]
    · have hbb : b' ≠ bs := fun hh => by subst hh; rw [k.cell] at hb'; cases hb'
      have e1 : ((i64s xs ++ more).drop 0).take (xs.length * 1) = i64s xs := by
        rw [List.drop_zero, Nat.mul_one, List.take_append_of_le_length (by rw [i64s_len]; exact Nat.le_refl _), List.take_of_length_le (by rw [i64s_len]; exact Nat.le_refl _)]
      refine fin b' q' _ _ hbb (AH.none_of_le k.le hb') (AH.le_put k.le (AH.none_of_le k.le hb')) ((AH.blk_put_ne _ _ (fun hh => hbb hh.symm)).trans k.cell) (AH.blk_put _ _ _) ⟨List.replicate (q' - (xs.length + 1)) .undef, ?_, by simp; omega⟩
      rw [e1]
      simp [i64s]
/-- The path loses its last piece. -/
theorem SS.cut {v : Int} (k : SS H0 bs n A hv x (xs ++ [v]) best h) : ∃ b q, x = .msl b 0 (xs.length + 1) (some q) ∧ xs.length + 1 ≤ q ∧ SS H0 bs n A hv (.msl b 0 xs.length (some q)) xs best (h.put bs [I n, A, hv, .msl b 0 xs.length (some q), bA best]) := by
  rcases k.pb with ⟨_, e⟩ | ⟨b, q, more, rfl, hne, hn, hb, hq⟩
  · simp at e
  · refine ⟨b, q, by simp, by simp at hq; omega, AH.le_put k.le k.n0, k.n0, AH.blk_put _ _ _, .inr ⟨b, q, I v :: more, rfl, hne, hn, ?_, by simp at hq ⊢; omega⟩⟩
    rw [AH.blk_put_ne _ _ hne, hb, i64s_append, List.append_assoc]
    rfl
/-- A better set is kept. -/
theorem SS.better (k : SS H0 bs n A hv x xs best h) (b' : Option (List Int)) : SS H0 bs n A hv x xs b' (h.put bs [I n, A, hv, x, bA b']) := by
  refine ⟨AH.le_put k.le k.n0, k.n0, AH.blk_put _ _ _, ?_⟩
  rcases k.pb with hp | ⟨b, q, more, rfl, hne, hn, hb, hq⟩
  · exact .inl hp
  · exact .inr ⟨b, q, more, rfl, hne, hn, (AH.blk_put_ne _ _ hne).trans hb, hq⟩
/-- A new table of ways home. -/
theorem SS.home (k : SS H0 bs n A hv x xs best h) {bh : Nat} (hbh : h.blk bh = none) (hv' : AV) (cs : List AV) : SS (H0.put bh cs) bs n A hv' x xs best ((h.put bs [I n, A, hv', x, bA best]).put bh cs) := by
  have hne : bs ≠ bh := fun hh => by subst hh; rw [k.cell] at hbh; cases hbh
  refine ⟨AH.le_put2 (AH.le_put k.le k.n0), (AH.blk_put_ne _ _ hne).trans k.n0, (AH.blk_put_ne _ _ hne).trans (AH.blk_put _ _ _), ?_⟩
  rcases k.pb with hp | ⟨b, q, more, rfl, hne2, hn, hb, hq⟩
  · exact .inl hp
  · have hbb : b ≠ bh := fun hh => by subst hh; rw [hb] at hbh; cases hbh
    exact .inr ⟨b, q, more, rfl, hne2, (AH.blk_put_ne _ _ hbb).trans hn, (AH.blk_put_ne _ _ hbb).trans ((AH.blk_put_ne _ _ hne2).trans hb), hq⟩
theorem SS.unhome {bh : Nat} {cs : List AV} (k : SS (H0.put bh cs) bs n A hv x xs best h) (hn : H0.blk bh = none) : SS H0 bs n A hv x xs best h := by
  have hle := AH.le_put (b := bh) (cs := cs) (AH.le.refl H0) hn
  refine ⟨hle.trans k.le, AH.none_of_le hle k.n0, k.cell, ?_⟩
  rcases k.pb with hp | ⟨b, q, more, rfl, hne2, hn2, hb, hq⟩
  · exact .inl hp
  · exact .inr ⟨b, q, more, rfl, hne2, AH.none_of_le hle hn2, hb, hq⟩
end Go.Proofs.Ytgfidbejffhalaa
