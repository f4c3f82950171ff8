/- Calls of functions of this seat's program: the first of the shortest chains. No condition. -/
import Derived.Test.YtndcbompcnlhmaaD6
namespace Go.Proofs.Ytndcbompcnlhmaa
open Go Go.Abs
set_option linter.unusedSimpArgs false
set_option linter.unusedVariables false
set_option maxRecDepth 20000

theorem r_cmp_isNaN (x : Int) (h : AH) : RCall Try.prog n_cmp_isNaN_int [I x] h (.bool false) := by
  refine RCall.of hm cF_cmp_isNaN_int (by simp [g_cmp_isNaN_int]) fun hw h' hl => ?_
  simp only [F_cmp_isNaN_int, g_cmp_isNaN_int, go_sem, reduceIte, Nat.reduceEqDiff, Nat.reduceAdd, Nat.reduceMul, Nat.reduceSub, reduceCtorEq, Nat.reduceLeDiff, Nat.reduceLT, Int.reduceLT, Int.reduceLE, Int.reduceToNat, Int.reduceAdd, Int.reduceSub, Int.reduceNeg, Int.reduceMul, Int.reduceEq, ← Bool.decide_and, ← Bool.decide_or, ↓tq_n, ↓tq_e, ↓tq_r, ↓bq_n, ↓bq_e, ↓bq_r, ↓rq_n, ↓rq_r, ↓rq_e]
  exact ret_ok rfl
/-- The comparison of two numbers. -/
def cmI (x y : Int) : Int := if x < y then -1 else if y < x then 1 else 0
theorem r_cmp_Compare (x y : Int) (h : AH) : RCall Try.prog n_cmp_Compare_int [I x, I y] h (I (cmI x y)) := by
  refine RCall.of hm cF_cmp_Compare_int (by simp [g_cmp_Compare_int]) fun hw h' hl => ?_
  simp only [F_cmp_Compare_int, g_cmp_Compare_int, go_sem, reduceIte, Nat.reduceEqDiff, Nat.reduceAdd, Nat.reduceMul, Nat.reduceSub, reduceCtorEq, Nat.reduceLeDiff, Nat.reduceLT, Int.reduceLT, Int.reduceLE, Int.reduceToNat, Int.reduceAdd, Int.reduceSub, Int.reduceNeg, Int.reduceMul, Int.reduceEq, ← Bool.decide_and, ← Bool.decide_or, ↓tq_n, ↓tq_e, ↓tq_r, ↓bq_n, ↓bq_e, ↓bq_r, ↓rq_n, ↓rq_r, ↓rq_e]
  refine CallG.mk (r_cmp_isNaN x _) ?_
  simp only [F_cmp_Compare_int, g_cmp_Compare_int, go_sem, reduceIte, Nat.reduceEqDiff, Nat.reduceAdd, Nat.reduceMul, Nat.reduceSub, reduceCtorEq, Nat.reduceLeDiff, Nat.reduceLT, Int.reduceLT, Int.reduceLE, Int.reduceToNat, Int.reduceAdd, Int.reduceSub, Int.reduceNeg, Int.reduceMul, Int.reduceEq, ← Bool.decide_and, ← Bool.decide_or, ↓tq_n, ↓tq_e, ↓tq_r, ↓bq_n, ↓bq_e, ↓bq_r, ↓rq_n, ↓rq_r, ↓rq_e]
  refine CallG.mk (r_cmp_isNaN y _) ?_
  by_cases h1 : x < y
  · simp only [h1, F_cmp_Compare_int, g_cmp_Compare_int, go_sem, reduceIte, Nat.reduceEqDiff, Nat.reduceAdd, Nat.reduceMul, Nat.reduceSub, reduceCtorEq, Nat.reduceLeDiff, Nat.reduceLT, Int.reduceLT, Int.reduceLE, Int.reduceToNat, Int.reduceAdd, Int.reduceSub, Int.reduceNeg, Int.reduceMul, Int.reduceEq, ← Bool.decide_and, ← Bool.decide_or, ↓tq_n, ↓tq_e, ↓tq_r, ↓bq_n, ↓bq_e, ↓bq_r, ↓rq_n, ↓rq_r, ↓rq_e]
    exact ret_ok (by rw [cmI, if_pos h1])
  · by_cases h2 : y < x
    · simp only [h1, h2, F_cmp_Compare_int, g_cmp_Compare_int, go_sem, reduceIte, Nat.reduceEqDiff, Nat.reduceAdd, Nat.reduceMul, Nat.reduceSub, reduceCtorEq, Nat.reduceLeDiff, Nat.reduceLT, Int.reduceLT, Int.reduceLE, Int.reduceToNat, Int.reduceAdd, Int.reduceSub, Int.reduceNeg, Int.reduceMul, Int.reduceEq, ← Bool.decide_and, ← Bool.decide_or, ↓tq_n, ↓tq_e, ↓tq_r, ↓bq_n, ↓bq_e, ↓bq_r, ↓rq_n, ↓rq_r, ↓rq_e]
      exact ret_ok (by rw [cmI, if_neg h1, if_pos h2])
    · simp only [h1, h2, F_cmp_Compare_int, g_cmp_Compare_int, go_sem, reduceIte, Nat.reduceEqDiff, Nat.reduceAdd, Nat.reduceMul, Nat.reduceSub, reduceCtorEq, Nat.reduceLeDiff, Nat.reduceLT, Int.reduceLT, Int.reduceLE, Int.reduceToNat, Int.reduceAdd, Int.reduceSub, Int.reduceNeg, Int.reduceMul, Int.reduceEq, ← Bool.decide_and, ← Bool.decide_or, ↓tq_n, ↓tq_e, ↓tq_r, ↓bq_n, ↓bq_e, ↓bq_r, ↓rq_n, ↓rq_r, ↓rq_e]
      exact ret_ok (by rw [cmI, if_neg h1, if_neg h2])
/-- The first number that is not 0. -/
def orI : List Int → Int
  | [] => 0
  | a :: e => if a ≠ 0 then a else orI e
theorem orI_drop {e : List Int} {i : Nat} (h : i < e.length) : orI (e.drop i) = if e.getD i 0 ≠ 0 then e.getD i 0 else orI (e.drop (i + 1)) := by
  rw [getD_drop e 0 h]; rfl
theorem r_cmp_Or (nl : Bool) (e : List Int) (tl : Tail) (h : AH) : RCall Try.prog n_cmp_Or_int [.sl nl e.length (i64s e) tl] h (I (orI e)) := by
  refine RCall.of hm cF_cmp_Or_int (by simp [g_cmp_Or_int]) fun hw h' hl => ?_
  have hx := wf_len (hw _ (.head _))
  simp only [F_cmp_Or_int, g_cmp_Or_int, go_sem, reduceIte, Nat.reduceEqDiff, Nat.reduceAdd, Nat.reduceMul, Nat.reduceSub, reduceCtorEq, Nat.reduceLeDiff, Nat.reduceLT, Int.reduceLT, Int.reduceLE, Int.reduceToNat, Int.reduceAdd, Int.reduceSub, Int.reduceNeg, Int.reduceMul, Int.reduceEq, ← Bool.decide_and, ← Bool.decide_or, ↓tq_n, ↓tq_e, ↓tq_r, ↓bq_n, ↓bq_e, ↓bq_r, ↓rq_n, ↓rq_r, ↓rq_e]
  refine awp_loop (fun i : Nat => [(3, I 0), (6, .sl nl e.length (i64s e) tl), (7, I e.length), (8, I i)]) (fun _ => h') (fun i => i ≤ e.length ∧ orI e = orI (e.drop i)) (fun i => e.length - i) 0 ⟨Nat.zero_le _, rfl⟩ (GStep.forget (by repeat' first | exact EnvLe.nil _ | refine EnvLe.cons (AV.le.of_eq rfl) ?_ | refine EnvLe.cons (AV.le.undef _) ?_ | refine EnvLe.cons AV.le.unk ?_) (by repeat' first | exact AH.le.refl _ | assumption | (refine AH.le_put ?_ (by first | assumption | exact (AH.blk_put_ne _ _ (by assumption)).trans (by assumption) | exact AH.none_put (by assumption) | exact AH.none_put (AH.none_put (by assumption)) | (simp only [AH.blk_setTok, AH.tok_put] at *; first | assumption | exact AH.none_put (by assumption)))) | (refine AH.le_setTok ?_ (by first | assumption | exact (AH.blk_put_ne _ _ (by assumption)).trans (by assumption) | exact AH.none_put (by assumption) | exact AH.none_put (AH.none_put (by assumption)) | (simp only [AH.blk_setTok, AH.tok_put] at *; first | assumption | exact AH.none_put (by assumption)))) | (refine AH.le_putM ?_ (by first | assumption | exact (AH.mp_putM_ne _ _ (by assumption)).trans (by assumption) | (simp only [AH.mp_put, AH.mp_setTok] at *; assumption))))) fun i hi => .of_vg hm ?_
  obtain ⟨h1, h2⟩ := hi
  by_cases h3 : i < e.length
  · have hc : (i : Int) < (e.length : Int) := by omega
    rw [orI_drop h3] at h2
    by_cases h4 : e.getD i 0 = 0
    · rw [if_neg (by simpa using h4)] at h2
      simp only [hc, i64s_drop h3, decide_eq_true h4, F_cmp_Or_int, g_cmp_Or_int, go_sem, reduceIte, Nat.reduceEqDiff, Nat.reduceAdd, Nat.reduceMul, Nat.reduceSub, reduceCtorEq, Nat.reduceLeDiff, Nat.reduceLT, Int.reduceLT, Int.reduceLE, Int.reduceToNat, Int.reduceAdd, Int.reduceSub, Int.reduceNeg, Int.reduceMul, Int.reduceEq, ← Bool.decide_and, ← Bool.decide_or, ↓tq_n, ↓tq_e, ↓tq_r, ↓bq_n, ↓bq_e, ↓bq_r, ↓rq_n, ↓rq_r, ↓rq_e]
      exact ⟨by rw [inR64]; omega, i + 1, ⟨by omega, h2⟩, by omega, (GStep.forget (by repeat' first | exact EnvLe.nil _ | refine EnvLe.cons (AV.le.of_eq rfl) ?_ | refine EnvLe.cons (AV.le.undef _) ?_ | refine EnvLe.cons AV.le.unk ?_) (by repeat' first | exact AH.le.refl _ | assumption | (refine AH.le_put ?_ (by first | assumption | exact (AH.blk_put_ne _ _ (by assumption)).trans (by assumption) | exact AH.none_put (by assumption) | exact AH.none_put (AH.none_put (by assumption)) | (simp only [AH.blk_setTok, AH.tok_put] at *; first | assumption | exact AH.none_put (by assumption)))) | (refine AH.le_setTok ?_ (by first | assumption | exact (AH.blk_put_ne _ _ (by assumption)).trans (by assumption) | exact AH.none_put (by assumption) | exact AH.none_put (AH.none_put (by assumption)) | (simp only [AH.blk_setTok, AH.tok_put] at *; first | assumption | exact AH.none_put (by assumption)))) | (refine AH.le_putM ?_ (by first | assumption | exact (AH.mp_putM_ne _ _ (by assumption)).trans (by assumption) | (simp only [AH.mp_put, AH.mp_setTok] at *; assumption)))))⟩
    · rw [if_pos h4] at h2
      simp only [hc, i64s_drop h3, decide_eq_false h4, F_cmp_Or_int, g_cmp_Or_int, go_sem, reduceIte, Nat.reduceEqDiff, Nat.reduceAdd, Nat.reduceMul, Nat.reduceSub, reduceCtorEq, Nat.reduceLeDiff, Nat.reduceLT, Int.reduceLT, Int.reduceLE, Int.reduceToNat, Int.reduceAdd, Int.reduceSub, Int.reduceNeg, Int.reduceMul, Int.reduceEq, ← Bool.decide_and, ← Bool.decide_or, ↓tq_n, ↓tq_e, ↓tq_r, ↓bq_n, ↓bq_e, ↓bq_r, ↓rq_n, ↓rq_r, ↓rq_e]
      exact ret_ok (by rw [h2])
  · have h3 : i = e.length := by omega
    subst h3
    rw [List.drop_length] at h2
    simp only [F_cmp_Or_int, g_cmp_Or_int, go_sem, reduceIte, Nat.reduceEqDiff, Nat.reduceAdd, Nat.reduceMul, Nat.reduceSub, reduceCtorEq, Nat.reduceLeDiff, Nat.reduceLT, Int.reduceLT, Int.reduceLE, Int.reduceToNat, Int.reduceAdd, Int.reduceSub, Int.reduceNeg, Int.reduceMul, Int.reduceEq, ← Bool.decide_and, ← Bool.decide_or, ↓tq_n, ↓tq_e, ↓tq_r, ↓bq_n, ↓bq_e, ↓bq_r, ↓rq_n, ↓rq_r, ↓rq_e]
    exact ret_ok (by rw [h2]; rfl)
theorem cmI_or {a b c a' b' c' : Int} : orI [cmI a a', cmI b b', cmI c c'] < 0 ↔ (a < a' ∨ a = a' ∧ (b < b' ∨ b = b' ∧ c < c')) := by
  simp only [orI, cmI]
  repeat' split
  all_goals omega

/-- The best piece in memory. -/
def bsC : Option T3 → List AV
  | none => [I (-1), I 0, I 0]
  | some p => [I p.1, I p.2.1, I p.2.2]
/-- What Why returns. -/
def whV (l : List Spm) (c : List (Int × Int)) (a b : Int) : AV :=
  if gaE l c = 0 then
    (if plc l a < 0 ∨ plc l b < 0 then .tup [.sl true 0 [] .full, I 7]
    else match wyF l (far l.length (pcs l c) (plc l b)) (pcs l c) (plc l b) (l.length + 2) (plc l a) with
      | none => .tup [.sl true 0 [] .full, I 7]
      | some o => .tup [gl (trs o) o.length .unk, I 0])
  else .tup [.sl true 0 [] .full, I (gaE l c)]
/-- How far the chain is. -/
def wyI (l : List Spm) (f : List Int) (P : List T3) (ia ib : Int) (o : List T3) (at_ : Int) (k : Nat) : Prop :=
  (o = [] → k = l.length + 2 ∧ at_ = ia) ∧ (o ≠ [] → 0 ≤ fv f at_ ∧ fv f at_ < k) ∧ (o ≠ [] ∧ at_ = ib → wyF l f P ib (l.length + 2) ia = some o) ∧ (¬ (o ≠ [] ∧ at_ = ib) → wyF l f P ib (l.length + 2) ia = (wyF l f P ib k at_).map (o ++ ·)) ∧ o.length + k ≤ l.length + 2
theorem wy_pos {l : List Spm} {f : List Int} {P : List T3} {ia ib at_ : Int} {o : List T3} {k : Nat} (hw : wyI l f P ia ib o at_ k) : ∃ k', k = k' + 1 := by
  refine ⟨k - 1, ?_⟩
  by_cases ho : o = []
  · have := (hw.1 ho).1; omega
  · have := hw.2.1 ho; omega
theorem wy_stop {l : List Spm} {f : List Int} {P : List T3} {ia ib at_ : Int} {o : List T3} {k : Nat} (hP : Pc l.length P) (hD : Dst l.length P ib f) (hw : wyI l f P ia ib o at_ k) (hr : 0 ≤ at_ ∧ at_ < l.length) (hgo : ¬ (o ≠ [] ∧ at_ = ib)) (hb : bst l f P at_ P.length = none) : wyF l f P ib (l.length + 2) ia = none := by
  obtain ⟨k', rfl⟩ := wy_pos hw
  rw [hw.2.2.2.1 hgo, wyF, hb]; rfl
theorem wy_next {l : List Spm} {f : List Int} {P : List T3} {ia ib at_ : Int} {o : List T3} {k : Nat} {q : T3} (hP : Pc l.length P) (hD : Dst l.length P ib f) (hw : wyI l f P ia ib o at_ k) (hr : 0 ≤ at_ ∧ at_ < l.length) (hgo : ¬ (o ≠ [] ∧ at_ = ib)) (hb : bst l f P at_ P.length = some q) :
    ∃ k', k = k' + 1 ∧ wyI l f P ia ib (o ++ [(q.1, idA l at_, idA l q.2.2)]) q.2.2 k' := by
  obtain ⟨k', rfl⟩ := wy_pos hw
  refine ⟨k', rfl, ?_⟩
  have hq := ((bst_spec (l := l) (f := f) (P := P) (at_ := at_) (j := P.length) (Nat.le_refl _)).1 q hb)
  have hqr := hP q hq.1
  have h4 := hw.2.2.2.1 hgo
  have e1 : wyF l f P ib (k' + 1) at_ = if q.2.2 = ib then some [(q.1, idA l at_, idA l q.2.2)] else (wyF l f P ib k' q.2.2).map ((q.1, idA l at_, idA l q.2.2) :: ·) := by rw [wyF, hb]
  rw [e1] at h4
  refine ⟨fun hh => absurd hh (by simp), fun _ => ⟨hq.2.2.1, ?_⟩, fun hh => ?_, fun hh => ?_, ?_⟩
  · by_cases ho : o = []
    · have h1 := (hw.1 ho).1
      have h2 := st_bd hD.st hP (v := q.2.2.toNat) (by omega)
      unfold fv
      omega
    · have h1 := hw.2.1 ho
      have h2 : at_ ≠ ib := fun hh => hgo ⟨ho, hh⟩
      have h3 : 0 < fv f at_ := by
        have h5 : fv f at_ ≠ 0 := fun hh => h2 (by have := hD.st.zer at_.toNat (by omega) hh; omega)
        omega
      obtain ⟨q', b1, b2, b3, b4⟩ := bst_dec (l := l) hP hD hr h3
      rw [hb] at b1
      cases b1
      omega
  · rw [h4, if_pos hh.2]; rfl
  · have hne : q.2.2 ≠ ib := fun h => hh ⟨by simp, h⟩
    rw [h4, if_neg hne, Option.map_map]
    congr 1
    funext x
    simp
  · have := hw.2.2.2.2
    simp only [List.length_append, List.length_singleton]
    omega
set_option maxHeartbeats 8000000 in
theorem r_precedence_Why (nl : Bool) (l : List Spm) (tl : Tail) (n2 : Bool) (c : List (Int × Int)) (u2 : Tail) (a b : Int) (h : AH) : RCall Try.prog n_precedence_Why [.sl nl l.length (sms l) tl, .sl n2 c.length (prs c) u2, I a, I b] h (whV l c a b) := by
  refine RCall.of hm cF_precedence_Why (by simp [g_precedence_Why]) fun hw h' hl => ?_
  simp only [F_precedence_Why, g_precedence_Why, go_sem, reduceIte, Nat.reduceEqDiff, Nat.reduceAdd, Nat.reduceMul, Nat.reduceSub, reduceCtorEq, Nat.reduceLeDiff, Nat.reduceLT, Int.reduceLT, Int.reduceLE, Int.reduceToNat, Int.reduceAdd, Int.reduceSub, Int.reduceNeg, Int.reduceMul, Int.reduceEq, ← Bool.decide_and, ← Bool.decide_or, ↓tq_n, ↓tq_e, ↓tq_r, ↓bq_n, ↓bq_e, ↓bq_r, ↓rq_n, ↓rq_r, ↓rq_e]
  refine CallG.mk (r_precedence_gather nl l tl n2 c u2 _) ?_
  by_cases c1 : gaE l c = 0
  case neg =>
    have e1 : gaV nl l tl c = .tup [.st [.sl true 0 [] .full, .sl true 0 [] .full], I (gaE l c)] := by unfold gaV; rw [if_neg c1]
    rw [e1]
    simp only [c1, F_precedence_Why, g_precedence_Why, go_sem, reduceIte, Nat.reduceEqDiff, Nat.reduceAdd, Nat.reduceMul, Nat.reduceSub, reduceCtorEq, Nat.reduceLeDiff, Nat.reduceLT, Int.reduceLT, Int.reduceLE, Int.reduceToNat, Int.reduceAdd, Int.reduceSub, Int.reduceNeg, Int.reduceMul, Int.reduceEq, ← Bool.decide_and, ← Bool.decide_or, ↓tq_n, ↓tq_e, ↓tq_r, ↓bq_n, ↓bq_e, ↓bq_r, ↓rq_n, ↓rq_r, ↓rq_e]
    exact ret_ok (by unfold whV; rw [if_neg c1])
  have e1 : gaV nl l tl c = .tup [.st [.sl nl l.length (sms l) tl, gl (trs (pcs l c)) (pcs l c).length .unk], I 0] := by unfold gaV; rw [if_pos c1]
  obtain ⟨g1, g2, g3, g4, g5, _⟩ := ga_ok c1
  rw [e1]
  obtain ⟨P, hPe⟩ : ∃ P, P = pcs l c := ⟨_, rfl⟩
  have hwv : whV l c a b = (if plc l a < 0 ∨ plc l b < 0 then .tup [.sl true 0 [] .full, I 7]
    else match wyF l (far l.length P (plc l b)) P (plc l b) (l.length + 2) (plc l a) with
      | none => .tup [.sl true 0 [] .full, I 7]
      | some o => .tup [gl (trs o) o.length .unk, I 0]) := by unfold whV; rw [if_pos c1, hPe]
  rw [← hPe] at g3 g4 g5 ⊢
  have hz : ((0 : Nat) : Int) = 0 := rfl
  simp only [F_precedence_Why, g_precedence_Why, go_sem, reduceIte, Nat.reduceEqDiff, Nat.reduceAdd, Nat.reduceMul, Nat.reduceSub, reduceCtorEq, Nat.reduceLeDiff, Nat.reduceLT, Int.reduceLT, Int.reduceLE, Int.reduceToNat, Int.reduceAdd, Int.reduceSub, Int.reduceNeg, Int.reduceMul, Int.reduceEq, ← Bool.decide_and, ← Bool.decide_or, ↓tq_n, ↓tq_e, ↓tq_r, ↓bq_n, ↓bq_e, ↓bq_r, ↓rq_n, ↓rq_r, ↓rq_e]
  refine CallG.mk (r_precedence_place nl l tl a _) ?_
  simp only [F_precedence_Why, g_precedence_Why, go_sem, reduceIte, Nat.reduceEqDiff, Nat.reduceAdd, Nat.reduceMul, Nat.reduceSub, reduceCtorEq, Nat.reduceLeDiff, Nat.reduceLT, Int.reduceLT, Int.reduceLE, Int.reduceToNat, Int.reduceAdd, Int.reduceSub, Int.reduceNeg, Int.reduceMul, Int.reduceEq, ← Bool.decide_and, ← Bool.decide_or, ↓tq_n, ↓tq_e, ↓tq_r, ↓bq_n, ↓bq_e, ↓bq_r, ↓rq_n, ↓rq_r, ↓rq_e]
  refine CallG.mk (r_precedence_place nl l tl b _) ?_
  by_cases c2 : plc l a < 0
  · simp only [c2, F_precedence_Why, g_precedence_Why, go_sem, reduceIte, Nat.reduceEqDiff, Nat.reduceAdd, Nat.reduceMul, Nat.reduceSub, reduceCtorEq, Nat.reduceLeDiff, Nat.reduceLT, Int.reduceLT, Int.reduceLE, Int.reduceToNat, Int.reduceAdd, Int.reduceSub, Int.reduceNeg, Int.reduceMul, Int.reduceEq, ← Bool.decide_and, ← Bool.decide_or, ↓tq_n, ↓tq_e, ↓tq_r, ↓bq_n, ↓bq_e, ↓bq_r, ↓rq_n, ↓rq_r, ↓rq_e]
    exact ret_ok (by rw [hwv, if_pos (.inl c2)])
  by_cases c3 : plc l b < 0
  · simp only [c2, c3, F_precedence_Why, g_precedence_Why, go_sem, reduceIte, Nat.reduceEqDiff, Nat.reduceAdd, Nat.reduceMul, Nat.reduceSub, reduceCtorEq, Nat.reduceLeDiff, Nat.reduceLT, Int.reduceLT, Int.reduceLE, Int.reduceToNat, Int.reduceAdd, Int.reduceSub, Int.reduceNeg, Int.reduceMul, Int.reduceEq, ← Bool.decide_and, ← Bool.decide_or, ↓tq_n, ↓tq_e, ↓tq_r, ↓bq_n, ↓bq_e, ↓bq_r, ↓rq_n, ↓rq_r, ↓rq_e]
    exact ret_ok (by rw [hwv, if_pos (.inr c3)])
  rw [if_neg (by omega)] at hwv
  obtain ⟨ia, hia⟩ : ∃ ia : Nat, plc l a = ia := ⟨(plc l a).toNat, by omega⟩
  obtain ⟨ib, hib⟩ : ∃ ib : Nat, plc l b = ib := ⟨(plc l b).toNat, by omega⟩
  have hal := (findI_lt (show 0 ≤ plc l a by omega)).1
  have hbl := (findI_lt (show 0 ≤ plc l b by omega)).1
  have hal : ia < l.length := by have : (plc l a).toNat < l.length := hal; omega
  have hbl : ib < l.length := by have : (plc l b).toNat < l.length := hbl; omega
  rw [hia, hib] at hwv ⊢
  have ha0 : ¬ (ia : Int) < 0 := by omega
  have hb0 : ¬ (ib : Int) < 0 := by omega
  simp only [ha0, hb0, F_precedence_Why, g_precedence_Why, go_sem, reduceIte, Nat.reduceEqDiff, Nat.reduceAdd, Nat.reduceMul, Nat.reduceSub, reduceCtorEq, Nat.reduceLeDiff, Nat.reduceLT, Int.reduceLT, Int.reduceLE, Int.reduceToNat, Int.reduceAdd, Int.reduceSub, Int.reduceNeg, Int.reduceMul, Int.reduceEq, ← Bool.decide_and, ← Bool.decide_or, ↓tq_n, ↓tq_e, ↓tq_r, ↓bq_n, ↓bq_e, ↓bq_r, ↓rq_n, ↓rq_r, ↓rq_e]
  refine CallG.mk (r_precedence_evidence_steps nl l tl P g3 (by omega) g1 ib hbl _) ?_
  obtain ⟨f, hf⟩ : ∃ f, f = far l.length P (ib : Int) := ⟨_, rfl⟩
  have hD := far_dst (n := l.length) (b := (ib : Int)) g3 ⟨by omega, by omega⟩
  rw [← hf] at hD hwv ⊢
  simp only [F_precedence_Why, g_precedence_Why, go_sem, reduceIte, Nat.reduceEqDiff, Nat.reduceAdd, Nat.reduceMul, Nat.reduceSub, reduceCtorEq, Nat.reduceLeDiff, Nat.reduceLT, Int.reduceLT, Int.reduceLE, Int.reduceToNat, Int.reduceAdd, Int.reduceSub, Int.reduceNeg, Int.reduceMul, Int.reduceEq, ← Bool.decide_and, ← Bool.decide_or, ↓tq_n, ↓tq_e, ↓tq_r, ↓bq_n, ↓bq_e, ↓bq_r, ↓rq_n, ↓rq_r, ↓rq_e]
  refine awp_tok 15 3 (nl := true) (n := 0) (cs := []) rfl fun t ht => ?_
  refine awp_loop (α := List T3 × Int × Nat × AH) (fun p => [(0, .sl nl l.length (sms l) tl), (10, .sptr [.sl nl l.length (sms l) tl, gl (trs P) P.length .unk]), (12, I p.2.1), (13, I ib), (14, .sl false l.length (i64s f) .unk), (15, gl (trs p.1) p.1.length (.tok t))]) (fun p => p.2.2.2.setTok t p.1.length 3)
    (fun p => (0 ≤ p.2.1 ∧ p.2.1 < l.length) ∧ wyI l f P ia ib p.1 p.2.1 p.2.2.1 ∧ h'.le p.2.2.2 ∧ p.2.2.2.tok t = none) (fun p => p.2.2.1) ([], (ia : Int), l.length + 2, h') ⟨⟨Int.natCast_nonneg _, by simp only; omega⟩, ⟨fun _ => ⟨rfl, rfl⟩, fun hn => absurd rfl hn, fun hn => absurd rfl hn.1, fun _ => (by simp), (by simp)⟩, AH.le.refl _, ht⟩ (GStep.forget (by repeat' first | exact EnvLe.nil _ | refine EnvLe.cons (AV.le.of_eq rfl) ?_ | refine EnvLe.cons (AV.le.undef _) ?_ | refine EnvLe.cons AV.le.unk ?_) (by repeat' first | exact AH.le.refl _ | assumption | (refine AH.le_put ?_ (by first | assumption | exact (AH.blk_put_ne _ _ (by assumption)).trans (by assumption) | exact AH.none_put (by assumption) | exact AH.none_put (AH.none_put (by assumption)) | (simp only [AH.blk_setTok, AH.tok_put] at *; first | assumption | exact AH.none_put (by assumption)))) | (refine AH.le_setTok ?_ (by first | assumption | exact (AH.blk_put_ne _ _ (by assumption)).trans (by assumption) | exact AH.none_put (by assumption) | exact AH.none_put (AH.none_put (by assumption)) | (simp only [AH.blk_setTok, AH.tok_put] at *; first | assumption | exact AH.none_put (by assumption)))) | (refine AH.le_putM ?_ (by first | assumption | exact (AH.mp_putM_ne _ _ (by assumption)).trans (by assumption) | (simp only [AH.mp_put, AH.mp_setTok] at *; assumption))))) fun p hp => .of_vg hm ?_
  have hfl := hD.st.len
  have hP0 := g3
  obtain ⟨o, at_, k, G⟩ := p
  obtain ⟨p1, p2, p3, p4⟩ := hp
  simp only at p1 p2 p3 p4 ⊢
  have ⟨w1, w2, w3, w4, w5⟩ := p2
  by_cases hstop : o ≠ [] ∧ at_ = ib
  · have ho : ¬ (o.length : Int) = 0 := fun hh => hstop.1 (List.eq_nil_of_length_eq_zero (by omega))
    have h3 := w3 hstop
    rw [h3] at hwv
    simp only [ho, hstop.2, F_precedence_Why, g_precedence_Why, go_sem, reduceIte, Nat.reduceEqDiff, Nat.reduceAdd, Nat.reduceMul, Nat.reduceSub, reduceCtorEq, Nat.reduceLeDiff, Nat.reduceLT, Int.reduceLT, Int.reduceLE, Int.reduceToNat, Int.reduceAdd, Int.reduceSub, Int.reduceNeg, Int.reduceMul, Int.reduceEq, ← Bool.decide_and, ← Bool.decide_or, ↓tq_n, ↓tq_e, ↓tq_r, ↓bq_n, ↓bq_e, ↓bq_r, ↓rq_n, ↓rq_r, ↓rq_e]
    refine ret_le (AH.le_setTok p3 ht) ?_
    rw [hwv]
    exact AV.le.tupC (.cons AV.le.unk (.cons (AV.le.refl _) .nil))
  have h4 := w4 hstop
  by_cases ho : o = []
  · have hoc : (o.length : Int) = 0 := by rw [ho]; rfl
    simp only [hoc, F_precedence_Why, g_precedence_Why, go_sem, reduceIte, Nat.reduceEqDiff, Nat.reduceAdd, Nat.reduceMul, Nat.reduceSub, reduceCtorEq, Nat.reduceLeDiff, Nat.reduceLT, Int.reduceLT, Int.reduceLE, Int.reduceToNat, Int.reduceAdd, Int.reduceSub, Int.reduceNeg, Int.reduceMul, Int.reduceEq, ← Bool.decide_and, ← Bool.decide_or, ↓tq_n, ↓tq_e, ↓tq_r, ↓bq_n, ↓bq_e, ↓bq_r, ↓rq_n, ↓rq_r, ↓rq_e]
    refine AllocG.mk fun b16 hb16 => ?_
    simp only [F_precedence_Why, g_precedence_Why, go_sem, reduceIte, Nat.reduceEqDiff, Nat.reduceAdd, Nat.reduceMul, Nat.reduceSub, reduceCtorEq, Nat.reduceLeDiff, Nat.reduceLT, Int.reduceLT, Int.reduceLE, Int.reduceToNat, Int.reduceAdd, Int.reduceSub, Int.reduceNeg, Int.reduceMul, Int.reduceEq, ← Bool.decide_and, ← Bool.decide_or, ↓tq_n, ↓tq_e, ↓tq_r, ↓bq_n, ↓bq_e, ↓bq_r, ↓rq_n, ↓rq_r, ↓rq_e]
    refine awp_loop (fun j : Nat => [(0, .sl nl l.length (sms l) tl), (10, .sptr [.sl nl l.length (sms l) tl, gl (trs P) P.length .unk]), (12, I at_), (13, I ib), (14, .sl false l.length (i64s f) .unk), (15, gl (trs o) o.length (.tok t)), (16, .ptr b16 0), (54, gl (trs P) P.length .unk), (55, I P.length), (56, I j)]) (fun j => (G.put b16 (bsC (bst l f P at_ j))).setTok t o.length 3) (fun j => j ≤ P.length) (fun j => P.length - j) 0 (Nat.zero_le _) (GStep.forget (by repeat' first | exact EnvLe.nil _ | refine EnvLe.cons (AV.le.of_eq rfl) ?_ | refine EnvLe.cons (AV.le.undef _) ?_ | refine EnvLe.cons AV.le.unk ?_) (by repeat' first | exact AH.le.refl _ | assumption | (refine AH.le_put ?_ (by first | assumption | exact (AH.blk_put_ne _ _ (by assumption)).trans (by assumption) | exact AH.none_put (by assumption) | exact AH.none_put (AH.none_put (by assumption)) | (simp only [AH.blk_setTok, AH.tok_put] at *; first | assumption | exact AH.none_put (by assumption)))) | (refine AH.le_setTok ?_ (by first | assumption | exact (AH.blk_put_ne _ _ (by assumption)).trans (by assumption) | exact AH.none_put (by assumption) | exact AH.none_put (AH.none_put (by assumption)) | (simp only [AH.blk_setTok, AH.tok_put] at *; first | assumption | exact AH.none_put (by assumption)))) | (refine AH.le_putM ?_ (by first | assumption | exact (AH.mp_putM_ne _ _ (by assumption)).trans (by assumption) | (simp only [AH.mp_put, AH.mp_setTok] at *; assumption))))) fun j hj => .of_vg hm ?_
    by_cases h5 : j < P.length
    · have hc5 : (j : Int) < (P.length : Int) := by omega
      have hpm : P.getD j d3 ∈ P := mem_getD h5
      obtain ⟨⟨z1, z2⟩, z3, z4⟩ := g3 _ hpm
      have z5 := g5 _ hpm
      have hdr := trs_drop h5
      have hbs : bst l f P at_ (j + 1) = if (P.getD j d3).2.1 = at_ ∧ 0 ≤ fv f (P.getD j d3).2.2 then (match bst l f P at_ j with
        | none => some (P.getD j d3)
        | some q => if btr l f (P.getD j d3) q then some (P.getD j d3) else some q) else bst l f P at_ j := rfl
      obtain ⟨p, hpe⟩ : ∃ p, p = P.getD j d3 := ⟨_, rfl⟩
      rw [← hpe] at hbs z1 z2 z3 z4 z5 hdr
      by_cases d1 : p.2.1 = at_
      case neg =>
        rw [if_neg (fun hh => d1 hh.1)] at hbs
        simp only [hc5, hdr, d1, F_precedence_Why, g_precedence_Why, go_sem, reduceIte, Nat.reduceEqDiff, Nat.reduceAdd, Nat.reduceMul, Nat.reduceSub, reduceCtorEq, Nat.reduceLeDiff, Nat.reduceLT, Int.reduceLT, Int.reduceLE, Int.reduceToNat, Int.reduceAdd, Int.reduceSub, Int.reduceNeg, Int.reduceMul, Int.reduceEq, ← Bool.decide_and, ← Bool.decide_or, ↓tq_n, ↓tq_e, ↓tq_r, ↓bq_n, ↓bq_e, ↓bq_r, ↓rq_n, ↓rq_r, ↓rq_e]
        exact ⟨by rw [inR64]; omega, j + 1, by omega, by omega, by rw [hbs]; exact (GStep.forget (by repeat' first | exact EnvLe.nil _ | refine EnvLe.cons (AV.le.of_eq rfl) ?_ | refine EnvLe.cons (AV.le.undef _) ?_ | refine EnvLe.cons AV.le.unk ?_) (by repeat' first | exact AH.le.refl _ | assumption | (refine AH.le_put ?_ (by first | assumption | exact (AH.blk_put_ne _ _ (by assumption)).trans (by assumption) | exact AH.none_put (by assumption) | exact AH.none_put (AH.none_put (by assumption)) | (simp only [AH.blk_setTok, AH.tok_put] at *; first | assumption | exact AH.none_put (by assumption)))) | (refine AH.le_setTok ?_ (by first | assumption | exact (AH.blk_put_ne _ _ (by assumption)).trans (by assumption) | exact AH.none_put (by assumption) | exact AH.none_put (AH.none_put (by assumption)) | (simp only [AH.blk_setTok, AH.tok_put] at *; first | assumption | exact AH.none_put (by assumption)))) | (refine AH.le_putM ?_ (by first | assumption | exact (AH.mp_putM_ne _ _ (by assumption)).trans (by assumption) | (simp only [AH.mp_put, AH.mp_setTok] at *; assumption)))))⟩
      obtain ⟨e, he⟩ : ∃ e : Nat, p.2.2 = e := ⟨p.2.2.toNat, by omega⟩
      have hel : e < l.length := by omega
      have hef : e < f.length := by rw [hfl]; exact hel
      have hec : (e : Int) < (l.length : Int) := by omega
      have he0 : (0 : Int) ≤ (e : Int) := by omega
      have efv : fv f p.2.2 = f.getD e 0 := by unfold fv; rw [he, Int.toNat_natCast]
      have eid : idA l p.2.2 = (l.getD e dS).id := by unfold idA; rw [he, Int.toNat_natCast]
      by_cases d2 : f.getD e 0 < 0
      case pos =>
        rw [if_neg (fun hh => by have := hh.2; omega)] at hbs
        simp only [hc5, hdr, d1, he, he0, hec, i64s_drop hef, d2, F_precedence_Why, g_precedence_Why, go_sem, reduceIte, Nat.reduceEqDiff, Nat.reduceAdd, Nat.reduceMul, Nat.reduceSub, reduceCtorEq, Nat.reduceLeDiff, Nat.reduceLT, Int.reduceLT, Int.reduceLE, Int.reduceToNat, Int.reduceAdd, Int.reduceSub, Int.reduceNeg, Int.reduceMul, Int.reduceEq, ← Bool.decide_and, ← Bool.decide_or, ↓tq_n, ↓tq_e, ↓tq_r, ↓bq_n, ↓bq_e, ↓bq_r, ↓rq_n, ↓rq_r, ↓rq_e]
        exact ⟨by rw [inR64]; omega, j + 1, by omega, by omega, by rw [hbs]; exact (GStep.forget (by repeat' first | exact EnvLe.nil _ | refine EnvLe.cons (AV.le.of_eq rfl) ?_ | refine EnvLe.cons (AV.le.undef _) ?_ | refine EnvLe.cons AV.le.unk ?_) (by repeat' first | exact AH.le.refl _ | assumption | (refine AH.le_put ?_ (by first | assumption | exact (AH.blk_put_ne _ _ (by assumption)).trans (by assumption) | exact AH.none_put (by assumption) | exact AH.none_put (AH.none_put (by assumption)) | (simp only [AH.blk_setTok, AH.tok_put] at *; first | assumption | exact AH.none_put (by assumption)))) | (refine AH.le_setTok ?_ (by first | assumption | exact (AH.blk_put_ne _ _ (by assumption)).trans (by assumption) | exact AH.none_put (by assumption) | exact AH.none_put (AH.none_put (by assumption)) | (simp only [AH.blk_setTok, AH.tok_put] at *; first | assumption | exact AH.none_put (by assumption)))) | (refine AH.le_putM ?_ (by first | assumption | exact (AH.mp_putM_ne _ _ (by assumption)).trans (by assumption) | (simp only [AH.mp_put, AH.mp_setTok] at *; assumption)))))⟩
      rw [if_pos ⟨d1, by omega⟩] at hbs
      cases hb : bst l f P at_ j with
      | none =>
        rw [hb] at hbs
        simp only at hbs
        simp only [bsC]
        have h0f : 0 < f.length := by omega
        have h0l : 0 < l.length := by omega
        have h0c : (0 : Int) < (l.length : Int) := by omega
        have hd1 := i64s_drop h0f
        have hs1 := sms_drop h0l
        rw [Nat.zero_mul] at hs1
        obtain ⟨X1, hX1⟩ : ∃ X1, X1 = (i64s f).drop (0 + 1) := ⟨_, rfl⟩
        obtain ⟨X2, hX2⟩ : ∃ X2, X2 = (sms l).drop ((0 + 1) * 7) := ⟨_, rfl⟩
        have hd0 : (i64s f).drop 0 = I (f.getD 0 0) :: X1 := by rw [hd1, hX1]
        have hs0 : (sms l).drop 0 = I (l.getD 0 dS).id :: I (l.getD 0 dS).obv :: I (l.getD 0 dS).rev :: I (l.getD 0 dS).os :: I (l.getD 0 dS).rs :: I (l.getD 0 dS).ax :: I (l.getD 0 dS).wt :: X2 := by rw [hs1, hX2]
        have hmx : max (0 : Int) 0 = 0 := rfl
        have z00 : (0 : Int) ≤ 0 := Int.le_refl _
        have hneg : (-1 : Int) < 0 := by decide
        simp only [hc5, hdr, d1, he, he0, hec, i64s_drop hef, d2, AH.blk_put, h0c, hd0, hs0, z00, sms_drop hel, hneg, hmx, F_precedence_Why, g_precedence_Why, go_sem, reduceIte, Nat.reduceEqDiff, Nat.reduceAdd, Nat.reduceMul, Nat.reduceSub, reduceCtorEq, Nat.reduceLeDiff, Nat.reduceLT, Int.reduceLT, Int.reduceLE, Int.reduceToNat, Int.reduceAdd, Int.reduceSub, Int.reduceNeg, Int.reduceMul, Int.reduceEq, ← Bool.decide_and, ← Bool.decide_or, ↓tq_n, ↓tq_e, ↓tq_r, ↓bq_n, ↓bq_e, ↓bq_r, ↓rq_n, ↓rq_r, ↓rq_e]
        refine CallG.mk (r_cmp_Compare _ _ _) ?_
        simp only [hc5, hdr, d1, he, he0, hec, i64s_drop hef, d2, AH.blk_put, h0c, hd0, hs0, z00, sms_drop hel, hneg, hmx, F_precedence_Why, g_precedence_Why, go_sem, reduceIte, Nat.reduceEqDiff, Nat.reduceAdd, Nat.reduceMul, Nat.reduceSub, reduceCtorEq, Nat.reduceLeDiff, Nat.reduceLT, Int.reduceLT, Int.reduceLE, Int.reduceToNat, Int.reduceAdd, Int.reduceSub, Int.reduceNeg, Int.reduceMul, Int.reduceEq, ← Bool.decide_and, ← Bool.decide_or, ↓tq_n, ↓tq_e, ↓tq_r, ↓bq_n, ↓bq_e, ↓bq_r, ↓rq_n, ↓rq_r, ↓rq_e]
        refine CallG.mk (r_cmp_Compare _ _ _) ?_
        simp only [hc5, hdr, d1, he, he0, hec, i64s_drop hef, d2, AH.blk_put, h0c, hd0, hs0, z00, sms_drop hel, hneg, hmx, F_precedence_Why, g_precedence_Why, go_sem, reduceIte, Nat.reduceEqDiff, Nat.reduceAdd, Nat.reduceMul, Nat.reduceSub, reduceCtorEq, Nat.reduceLeDiff, Nat.reduceLT, Int.reduceLT, Int.reduceLE, Int.reduceToNat, Int.reduceAdd, Int.reduceSub, Int.reduceNeg, Int.reduceMul, Int.reduceEq, ← Bool.decide_and, ← Bool.decide_or, ↓tq_n, ↓tq_e, ↓tq_r, ↓bq_n, ↓bq_e, ↓bq_r, ↓rq_n, ↓rq_r, ↓rq_e]
        refine CallG.mk (r_cmp_Compare _ _ _) ?_
        simp only [hc5, hdr, d1, he, he0, hec, i64s_drop hef, d2, AH.blk_put, h0c, hd0, hs0, z00, sms_drop hel, hneg, hmx, F_precedence_Why, g_precedence_Why, go_sem, reduceIte, Nat.reduceEqDiff, Nat.reduceAdd, Nat.reduceMul, Nat.reduceSub, reduceCtorEq, Nat.reduceLeDiff, Nat.reduceLT, Int.reduceLT, Int.reduceLE, Int.reduceToNat, Int.reduceAdd, Int.reduceSub, Int.reduceNeg, Int.reduceMul, Int.reduceEq, ← Bool.decide_and, ← Bool.decide_or, ↓tq_n, ↓tq_e, ↓tq_r, ↓bq_n, ↓bq_e, ↓bq_r, ↓rq_n, ↓rq_r, ↓rq_e]
        refine CallG.mk (r_cmp_Or false [cmI (f.getD e 0) (f.getD 0 0), cmI (l.getD e dS).id (l.getD 0 dS).id, cmI p.1 (-1)] .full _) ?_
        simp only [hc5, hdr, d1, he, he0, hec, i64s_drop hef, d2, AH.blk_put, h0c, hd0, hs0, z00, sms_drop hel, hneg, hmx, F_precedence_Why, g_precedence_Why, go_sem, reduceIte, Nat.reduceEqDiff, Nat.reduceAdd, Nat.reduceMul, Nat.reduceSub, reduceCtorEq, Nat.reduceLeDiff, Nat.reduceLT, Int.reduceLT, Int.reduceLE, Int.reduceToNat, Int.reduceAdd, Int.reduceSub, Int.reduceNeg, Int.reduceMul, Int.reduceEq, ← Bool.decide_and, ← Bool.decide_or, ↓tq_n, ↓tq_e, ↓tq_r, ↓bq_n, ↓bq_e, ↓bq_r, ↓rq_n, ↓rq_r, ↓rq_e]
        refine ⟨by rw [inR64]; omega, j + 1, by omega, by omega, ?_⟩
        rw [hbs]
        simp only [bsC, d1, he]
        exact (GStep.forget (by repeat' first | exact EnvLe.nil _ | refine EnvLe.cons (AV.le.of_eq rfl) ?_ | refine EnvLe.cons (AV.le.undef _) ?_ | refine EnvLe.cons AV.le.unk ?_) (by repeat' first | exact AH.le.refl _ | assumption | (refine AH.le_put ?_ (by first | assumption | exact (AH.blk_put_ne _ _ (by assumption)).trans (by assumption) | exact AH.none_put (by assumption) | exact AH.none_put (AH.none_put (by assumption)) | (simp only [AH.blk_setTok, AH.tok_put] at *; first | assumption | exact AH.none_put (by assumption)))) | (refine AH.le_setTok ?_ (by first | assumption | exact (AH.blk_put_ne _ _ (by assumption)).trans (by assumption) | exact AH.none_put (by assumption) | exact AH.none_put (AH.none_put (by assumption)) | (simp only [AH.blk_setTok, AH.tok_put] at *; first | assumption | exact AH.none_put (by assumption)))) | (refine AH.le_putM ?_ (by first | assumption | exact (AH.mp_putM_ne _ _ (by assumption)).trans (by assumption) | (simp only [AH.mp_put, AH.mp_setTok] at *; assumption)))))
      | some q =>
        rw [hb] at hbs
        simp only at hbs
        simp only [bsC]
        obtain ⟨⟨k1, k2⟩, k3, k4⟩ := g3 q ((bst_spec (by omega)).1 q hb).1
        have k5 := g5 q ((bst_spec (by omega)).1 q hb).1
        obtain ⟨r, hr⟩ : ∃ r : Nat, q.2.2 = r := ⟨q.2.2.toNat, by omega⟩
        have hrl : r < l.length := by omega
        have hrf : r < f.length := by rw [hfl]; exact hrl
        have hrc : (r : Int) < (l.length : Int) := by omega
        have hr0 : (0 : Int) ≤ (r : Int) := by omega
        have qfv : fv f q.2.2 = f.getD r 0 := by unfold fv; rw [hr, Int.toNat_natCast]
        have qid : idA l q.2.2 = (l.getD r dS).id := by unfold idA; rw [hr, Int.toNat_natCast]
        have hk5 : ¬ q.1 < 0 := by omega
        have hmx : max (r : Int) 0 = r := by omega
        simp only [hc5, hdr, d1, he, he0, hec, i64s_drop hef, d2, AH.blk_put, hr, hr0, hrc, i64s_drop hrf, sms_drop hel, sms_drop hrl, hk5, hmx, F_precedence_Why, g_precedence_Why, go_sem, reduceIte, Nat.reduceEqDiff, Nat.reduceAdd, Nat.reduceMul, Nat.reduceSub, reduceCtorEq, Nat.reduceLeDiff, Nat.reduceLT, Int.reduceLT, Int.reduceLE, Int.reduceToNat, Int.reduceAdd, Int.reduceSub, Int.reduceNeg, Int.reduceMul, Int.reduceEq, ← Bool.decide_and, ← Bool.decide_or, ↓tq_n, ↓tq_e, ↓tq_r, ↓bq_n, ↓bq_e, ↓bq_r, ↓rq_n, ↓rq_r, ↓rq_e]
        refine CallG.mk (r_cmp_Compare _ _ _) ?_
        simp only [hc5, hdr, d1, he, he0, hec, i64s_drop hef, d2, AH.blk_put, hr, hr0, hrc, i64s_drop hrf, sms_drop hel, sms_drop hrl, hk5, hmx, F_precedence_Why, g_precedence_Why, go_sem, reduceIte, Nat.reduceEqDiff, Nat.reduceAdd, Nat.reduceMul, Nat.reduceSub, reduceCtorEq, Nat.reduceLeDiff, Nat.reduceLT, Int.reduceLT, Int.reduceLE, Int.reduceToNat, Int.reduceAdd, Int.reduceSub, Int.reduceNeg, Int.reduceMul, Int.reduceEq, ← Bool.decide_and, ← Bool.decide_or, ↓tq_n, ↓tq_e, ↓tq_r, ↓bq_n, ↓bq_e, ↓bq_r, ↓rq_n, ↓rq_r, ↓rq_e]
        refine CallG.mk (r_cmp_Compare _ _ _) ?_
        simp only [hc5, hdr, d1, he, he0, hec, i64s_drop hef, d2, AH.blk_put, hr, hr0, hrc, i64s_drop hrf, sms_drop hel, sms_drop hrl, hk5, hmx, F_precedence_Why, g_precedence_Why, go_sem, reduceIte, Nat.reduceEqDiff, Nat.reduceAdd, Nat.reduceMul, Nat.reduceSub, reduceCtorEq, Nat.reduceLeDiff, Nat.reduceLT, Int.reduceLT, Int.reduceLE, Int.reduceToNat, Int.reduceAdd, Int.reduceSub, Int.reduceNeg, Int.reduceMul, Int.reduceEq, ← Bool.decide_and, ← Bool.decide_or, ↓tq_n, ↓tq_e, ↓tq_r, ↓bq_n, ↓bq_e, ↓bq_r, ↓rq_n, ↓rq_r, ↓rq_e]
        refine CallG.mk (r_cmp_Compare _ _ _) ?_
        simp only [hc5, hdr, d1, he, he0, hec, i64s_drop hef, d2, AH.blk_put, hr, hr0, hrc, i64s_drop hrf, sms_drop hel, sms_drop hrl, hk5, hmx, F_precedence_Why, g_precedence_Why, go_sem, reduceIte, Nat.reduceEqDiff, Nat.reduceAdd, Nat.reduceMul, Nat.reduceSub, reduceCtorEq, Nat.reduceLeDiff, Nat.reduceLT, Int.reduceLT, Int.reduceLE, Int.reduceToNat, Int.reduceAdd, Int.reduceSub, Int.reduceNeg, Int.reduceMul, Int.reduceEq, ← Bool.decide_and, ← Bool.decide_or, ↓tq_n, ↓tq_e, ↓tq_r, ↓bq_n, ↓bq_e, ↓bq_r, ↓rq_n, ↓rq_r, ↓rq_e]
        refine CallG.mk (r_cmp_Or false [cmI (f.getD e 0) (f.getD r 0), cmI (l.getD e dS).id (l.getD r dS).id, cmI p.1 q.1] .full _) ?_
        have hbt : orI [cmI (f.getD e 0) (f.getD r 0), cmI (l.getD e dS).id (l.getD r dS).id, cmI p.1 q.1] < 0 ↔ btr l f p q := by rw [cmI_or]; unfold btr; rw [efv, qfv, eid, qid]
        obtain ⟨N, hN⟩ : ∃ N, N = orI [cmI (f.getD e 0) (f.getD r 0), cmI (l.getD e dS).id (l.getD r dS).id, cmI p.1 q.1] := ⟨_, rfl⟩
        rw [← hN] at hbt ⊢
        by_cases hN0 : N < 0
        · rw [if_pos (hbt.1 hN0)] at hbs
          simp only [hc5, hdr, d1, he, he0, hec, i64s_drop hef, d2, AH.blk_put, hr, hr0, hrc, i64s_drop hrf, sms_drop hel, sms_drop hrl, hk5, hmx, hN0, F_precedence_Why, g_precedence_Why, go_sem, reduceIte, Nat.reduceEqDiff, Nat.reduceAdd, Nat.reduceMul, Nat.reduceSub, reduceCtorEq, Nat.reduceLeDiff, Nat.reduceLT, Int.reduceLT, Int.reduceLE, Int.reduceToNat, Int.reduceAdd, Int.reduceSub, Int.reduceNeg, Int.reduceMul, Int.reduceEq, ← Bool.decide_and, ← Bool.decide_or, ↓tq_n, ↓tq_e, ↓tq_r, ↓bq_n, ↓bq_e, ↓bq_r, ↓rq_n, ↓rq_r, ↓rq_e]
          refine ⟨by rw [inR64]; omega, j + 1, by omega, by omega, ?_⟩
          rw [hbs]
          simp only [bsC, d1, he]
          exact (GStep.forget (by repeat' first | exact EnvLe.nil _ | refine EnvLe.cons (AV.le.of_eq rfl) ?_ | refine EnvLe.cons (AV.le.undef _) ?_ | refine EnvLe.cons AV.le.unk ?_) (by repeat' first | exact AH.le.refl _ | assumption | (refine AH.le_put ?_ (by first | assumption | exact (AH.blk_put_ne _ _ (by assumption)).trans (by assumption) | exact AH.none_put (by assumption) | exact AH.none_put (AH.none_put (by assumption)) | (simp only [AH.blk_setTok, AH.tok_put] at *; first | assumption | exact AH.none_put (by assumption)))) | (refine AH.le_setTok ?_ (by first | assumption | exact (AH.blk_put_ne _ _ (by assumption)).trans (by assumption) | exact AH.none_put (by assumption) | exact AH.none_put (AH.none_put (by assumption)) | (simp only [AH.blk_setTok, AH.tok_put] at *; first | assumption | exact AH.none_put (by assumption)))) | (refine AH.le_putM ?_ (by first | assumption | exact (AH.mp_putM_ne _ _ (by assumption)).trans (by assumption) | (simp only [AH.mp_put, AH.mp_setTok] at *; assumption)))))
        · rw [if_neg (fun hh => hN0 (hbt.2 hh))] at hbs
          simp only [hc5, hdr, d1, he, he0, hec, i64s_drop hef, d2, AH.blk_put, hr, hr0, hrc, i64s_drop hrf, sms_drop hel, sms_drop hrl, hk5, hmx, hN0, F_precedence_Why, g_precedence_Why, go_sem, reduceIte, Nat.reduceEqDiff, Nat.reduceAdd, Nat.reduceMul, Nat.reduceSub, reduceCtorEq, Nat.reduceLeDiff, Nat.reduceLT, Int.reduceLT, Int.reduceLE, Int.reduceToNat, Int.reduceAdd, Int.reduceSub, Int.reduceNeg, Int.reduceMul, Int.reduceEq, ← Bool.decide_and, ← Bool.decide_or, ↓tq_n, ↓tq_e, ↓tq_r, ↓bq_n, ↓bq_e, ↓bq_r, ↓rq_n, ↓rq_r, ↓rq_e]
          refine ⟨by rw [inR64]; omega, j + 1, by omega, by omega, ?_⟩
          rw [hbs]
          simp only [bsC, hr]
          exact (GStep.forget (by repeat' first | exact EnvLe.nil _ | refine EnvLe.cons (AV.le.of_eq rfl) ?_ | refine EnvLe.cons (AV.le.undef _) ?_ | refine EnvLe.cons AV.le.unk ?_) (by repeat' first | exact AH.le.refl _ | assumption | (refine AH.le_put ?_ (by first | assumption | exact (AH.blk_put_ne _ _ (by assumption)).trans (by assumption) | exact AH.none_put (by assumption) | exact AH.none_put (AH.none_put (by assumption)) | (simp only [AH.blk_setTok, AH.tok_put] at *; first | assumption | exact AH.none_put (by assumption)))) | (refine AH.le_setTok ?_ (by first | assumption | exact (AH.blk_put_ne _ _ (by assumption)).trans (by assumption) | exact AH.none_put (by assumption) | exact AH.none_put (AH.none_put (by assumption)) | (simp only [AH.blk_setTok, AH.tok_put] at *; first | assumption | exact AH.none_put (by assumption)))) | (refine AH.le_putM ?_ (by first | assumption | exact (AH.mp_putM_ne _ _ (by assumption)).trans (by assumption) | (simp only [AH.mp_put, AH.mp_setTok] at *; assumption)))))
    have h5 : j = P.length := by omega
    subst h5
    cases hb : bst l f P at_ P.length with
    | none =>
      simp only [bsC]
      have hneg : (-1 : Int) < 0 := by decide
      rw [wy_stop hP0 hD p2 p1 hstop hb] at hwv
      simp only [AH.blk_put, hneg, F_precedence_Why, g_precedence_Why, go_sem, reduceIte, Nat.reduceEqDiff, Nat.reduceAdd, Nat.reduceMul, Nat.reduceSub, reduceCtorEq, Nat.reduceLeDiff, Nat.reduceLT, Int.reduceLT, Int.reduceLE, Int.reduceToNat, Int.reduceAdd, Int.reduceSub, Int.reduceNeg, Int.reduceMul, Int.reduceEq, ← Bool.decide_and, ← Bool.decide_or, ↓tq_n, ↓tq_e, ↓tq_r, ↓bq_n, ↓bq_e, ↓bq_r, ↓rq_n, ↓rq_r, ↓rq_e]
      refine ret_hb (AH.le_put (AH.le_setTok p3 ht) (AH.none_of_le p3 hb16)) ?_
      rw [hwv]
    | some q =>
      simp only [bsC]
      obtain ⟨k', rfl, hw'⟩ := wy_next hP0 hD p2 p1 hstop hb
      have hq := ((bst_spec (l := l) (f := f) (P := P) (at_ := at_) (j := P.length) (Nat.le_refl _)).1 q hb)
      obtain ⟨⟨k1, k2⟩, k3, k4⟩ := g3 q hq.1
      have hk5 : ¬ q.1 < 0 := by have := g5 q hq.1; omega
      obtain ⟨r, hr⟩ : ∃ r : Nat, q.2.2 = r := ⟨q.2.2.toNat, by omega⟩
      obtain ⟨m, hm'⟩ : ∃ m : Nat, at_ = m := ⟨at_.toNat, by omega⟩
      have hrl : r < l.length := by omega
      have hml : m < l.length := by omega
      have hrc : (r : Int) < (l.length : Int) := by omega
      have hr0 : (0 : Int) ≤ (r : Int) := by omega
      have hmc : (m : Int) < (l.length : Int) := by omega
      have hm0 : (0 : Int) ≤ (m : Int) := by omega
      subst hm'
      have qid : idA l q.2.2 = (l.getD r dS).id := by unfold idA; rw [hr, Int.toNat_natCast]
      have mid : idA l (m : Int) = (l.getD m dS).id := by unfold idA; rw [Int.toNat_natCast]
      rw [qid, mid] at hw'
      have hol : o.length ≤ 100 := by omega
      rw [hr] at hw'
      simp only [AH.blk_put, hk5, hr, hr0, hrc, hm0, hmc, sms_drop hrl, sms_drop hml, F_precedence_Why, g_precedence_Why, go_sem, reduceIte, Nat.reduceEqDiff, Nat.reduceAdd, Nat.reduceMul, Nat.reduceSub, reduceCtorEq, Nat.reduceLeDiff, Nat.reduceLT, Int.reduceLT, Int.reduceLE, Int.reduceToNat, Int.reduceAdd, Int.reduceSub, Int.reduceNeg, Int.reduceMul, Int.reduceEq, ← Bool.decide_and, ← Bool.decide_or, ↓tq_n, ↓tq_e, ↓tq_r, ↓bq_n, ↓bq_e, ↓bq_r, ↓rq_n, ↓rq_r, ↓rq_e]
      refine ⟨by rw [trs_len], by omega, by omega, (o ++ [(q.1, (l.getD m dS).id, (l.getD r dS).id)], (r : Int), k', G.put b16 [I q.1, I q.2.1, I (r : Int)]), ⟨⟨hr0, hrc⟩, hw', AH.le_put p3 (AH.none_of_le p3 hb16), p4⟩, by simp only; omega, ?_⟩
      simp only [trs_snoc, List.length_append, List.length_singleton]
      exact (GStep.forget (by repeat' first | exact EnvLe.nil _ | refine EnvLe.cons (AV.le.of_eq rfl) ?_ | refine EnvLe.cons (AV.le.undef _) ?_ | refine EnvLe.cons AV.le.unk ?_) (by repeat' first | exact AH.le.refl _ | assumption | (refine AH.le_put ?_ (by first | assumption | exact (AH.blk_put_ne _ _ (by assumption)).trans (by assumption) | exact AH.none_put (by assumption) | exact AH.none_put (AH.none_put (by assumption)) | (simp only [AH.blk_setTok, AH.tok_put] at *; first | assumption | exact AH.none_put (by assumption)))) | (refine AH.le_setTok ?_ (by first | assumption | exact (AH.blk_put_ne _ _ (by assumption)).trans (by assumption) | exact AH.none_put (by assumption) | exact AH.none_put (AH.none_put (by assumption)) | (simp only [AH.blk_setTok, AH.tok_put] at *; first | assumption | exact AH.none_put (by assumption)))) | (refine AH.le_putM ?_ (by first | assumption | exact (AH.mp_putM_ne _ _ (by assumption)).trans (by assumption) | (simp only [AH.mp_put, AH.mp_setTok] at *; assumption)))))
  · have hoc : ¬ (o.length : Int) = 0 := fun hh => ho (List.eq_nil_of_length_eq_zero (by omega))
    have hac : ¬ at_ = (ib : Int) := fun hh => hstop ⟨ho, hh⟩
    simp only [hoc, hac, F_precedence_Why, g_precedence_Why, go_sem, reduceIte, Nat.reduceEqDiff, Nat.reduceAdd, Nat.reduceMul, Nat.reduceSub, reduceCtorEq, Nat.reduceLeDiff, Nat.reduceLT, Int.reduceLT, Int.reduceLE, Int.reduceToNat, Int.reduceAdd, Int.reduceSub, Int.reduceNeg, Int.reduceMul, Int.reduceEq, ← Bool.decide_and, ← Bool.decide_or, ↓tq_n, ↓tq_e, ↓tq_r, ↓bq_n, ↓bq_e, ↓bq_r, ↓rq_n, ↓rq_r, ↓rq_e]
    refine AllocG.mk fun b16 hb16 => ?_
    simp only [F_precedence_Why, g_precedence_Why, go_sem, reduceIte, Nat.reduceEqDiff, Nat.reduceAdd, Nat.reduceMul, Nat.reduceSub, reduceCtorEq, Nat.reduceLeDiff, Nat.reduceLT, Int.reduceLT, Int.reduceLE, Int.reduceToNat, Int.reduceAdd, Int.reduceSub, Int.reduceNeg, Int.reduceMul, Int.reduceEq, ← Bool.decide_and, ← Bool.decide_or, ↓tq_n, ↓tq_e, ↓tq_r, ↓bq_n, ↓bq_e, ↓bq_r, ↓rq_n, ↓rq_r, ↓rq_e]
    refine awp_loop (fun j : Nat => [(0, .sl nl l.length (sms l) tl), (10, .sptr [.sl nl l.length (sms l) tl, gl (trs P) P.length .unk]), (12, I at_), (13, I ib), (14, .sl false l.length (i64s f) .unk), (15, gl (trs o) o.length (.tok t)), (16, .ptr b16 0), (54, gl (trs P) P.length .unk), (55, I P.length), (56, I j)]) (fun j => (G.put b16 (bsC (bst l f P at_ j))).setTok t o.length 3) (fun j => j ≤ P.length) (fun j => P.length - j) 0 (Nat.zero_le _) (GStep.forget (by repeat' first | exact EnvLe.nil _ | refine EnvLe.cons (AV.le.of_eq rfl) ?_ | refine EnvLe.cons (AV.le.undef _) ?_ | refine EnvLe.cons AV.le.unk ?_) (by repeat' first | exact AH.le.refl _ | assumption | (refine AH.le_put ?_ (by first | assumption | exact (AH.blk_put_ne _ _ (by assumption)).trans (by assumption) | exact AH.none_put (by assumption) | exact AH.none_put (AH.none_put (by assumption)) | (simp only [AH.blk_setTok, AH.tok_put] at *; first | assumption | exact AH.none_put (by assumption)))) | (refine AH.le_setTok ?_ (by first | assumption | exact (AH.blk_put_ne _ _ (by assumption)).trans (by assumption) | exact AH.none_put (by assumption) | exact AH.none_put (AH.none_put (by assumption)) | (simp only [AH.blk_setTok, AH.tok_put] at *; first | assumption | exact AH.none_put (by assumption)))) | (refine AH.le_putM ?_ (by first | assumption | exact (AH.mp_putM_ne _ _ (by assumption)).trans (by assumption) | (simp only [AH.mp_put, AH.mp_setTok] at *; assumption))))) fun j hj => .of_vg hm ?_
    by_cases h5 : j < P.length
    · have hc5 : (j : Int) < (P.length : Int) := by omega
      have hpm : P.getD j d3 ∈ P := mem_getD h5
      obtain ⟨⟨z1, z2⟩, z3, z4⟩ := g3 _ hpm
      have z5 := g5 _ hpm
      have hdr := trs_drop h5
      have hbs : bst l f P at_ (j + 1) = if (P.getD j d3).2.1 = at_ ∧ 0 ≤ fv f (P.getD j d3).2.2 then (match bst l f P at_ j with
        | none => some (P.getD j d3)
        | some q => if btr l f (P.getD j d3) q then some (P.getD j d3) else some q) else bst l f P at_ j := rfl
      obtain ⟨p, hpe⟩ : ∃ p, p = P.getD j d3 := ⟨_, rfl⟩
      rw [← hpe] at hbs z1 z2 z3 z4 z5 hdr
      by_cases d1 : p.2.1 = at_
      case neg =>
        rw [if_neg (fun hh => d1 hh.1)] at hbs
        simp only [hc5, hdr, d1, F_precedence_Why, g_precedence_Why, go_sem, reduceIte, Nat.reduceEqDiff, Nat.reduceAdd, Nat.reduceMul, Nat.reduceSub, reduceCtorEq, Nat.reduceLeDiff, Nat.reduceLT, Int.reduceLT, Int.reduceLE, Int.reduceToNat, Int.reduceAdd, Int.reduceSub, Int.reduceNeg, Int.reduceMul, Int.reduceEq, ← Bool.decide_and, ← Bool.decide_or, ↓tq_n, ↓tq_e, ↓tq_r, ↓bq_n, ↓bq_e, ↓bq_r, ↓rq_n, ↓rq_r, ↓rq_e]
        exact ⟨by rw [inR64]; omega, j + 1, by omega, by omega, by rw [hbs]; exact (GStep.forget (by repeat' first | exact EnvLe.nil _ | refine EnvLe.cons (AV.le.of_eq rfl) ?_ | refine EnvLe.cons (AV.le.undef _) ?_ | refine EnvLe.cons AV.le.unk ?_) (by repeat' first | exact AH.le.refl _ | assumption | (refine AH.le_put ?_ (by first | assumption | exact (AH.blk_put_ne _ _ (by assumption)).trans (by assumption) | exact AH.none_put (by assumption) | exact AH.none_put (AH.none_put (by assumption)) | (simp only [AH.blk_setTok, AH.tok_put] at *; first | assumption | exact AH.none_put (by assumption)))) | (refine AH.le_setTok ?_ (by first | assumption | exact (AH.blk_put_ne _ _ (by assumption)).trans (by assumption) | exact AH.none_put (by assumption) | exact AH.none_put (AH.none_put (by assumption)) | (simp only [AH.blk_setTok, AH.tok_put] at *; first | assumption | exact AH.none_put (by assumption)))) | (refine AH.le_putM ?_ (by first | assumption | exact (AH.mp_putM_ne _ _ (by assumption)).trans (by assumption) | (simp only [AH.mp_put, AH.mp_setTok] at *; assumption)))))⟩
      obtain ⟨e, he⟩ : ∃ e : Nat, p.2.2 = e := ⟨p.2.2.toNat, by omega⟩
      have hel : e < l.length := by omega
      have hef : e < f.length := by rw [hfl]; exact hel
      have hec : (e : Int) < (l.length : Int) := by omega
      have he0 : (0 : Int) ≤ (e : Int) := by omega
      have efv : fv f p.2.2 = f.getD e 0 := by unfold fv; rw [he, Int.toNat_natCast]
      have eid : idA l p.2.2 = (l.getD e dS).id := by unfold idA; rw [he, Int.toNat_natCast]
      by_cases d2 : f.getD e 0 < 0
      case pos =>
        rw [if_neg (fun hh => by have := hh.2; omega)] at hbs
        simp only [hc5, hdr, d1, he, he0, hec, i64s_drop hef, d2, F_precedence_Why, g_precedence_Why, go_sem, reduceIte, Nat.reduceEqDiff, Nat.reduceAdd, Nat.reduceMul, Nat.reduceSub, reduceCtorEq, Nat.reduceLeDiff, Nat.reduceLT, Int.reduceLT, Int.reduceLE, Int.reduceToNat, Int.reduceAdd, Int.reduceSub, Int.reduceNeg, Int.reduceMul, Int.reduceEq, ← Bool.decide_and, ← Bool.decide_or, ↓tq_n, ↓tq_e, ↓tq_r, ↓bq_n, ↓bq_e, ↓bq_r, ↓rq_n, ↓rq_r, ↓rq_e]
        exact ⟨by rw [inR64]; omega, j + 1, by omega, by omega, by rw [hbs]; exact (GStep.forget (by repeat' first | exact EnvLe.nil _ | refine EnvLe.cons (AV.le.of_eq rfl) ?_ | refine EnvLe.cons (AV.le.undef _) ?_ | refine EnvLe.cons AV.le.unk ?_) (by repeat' first | exact AH.le.refl _ | assumption | (refine AH.le_put ?_ (by first | assumption | exact (AH.blk_put_ne _ _ (by assumption)).trans (by assumption) | exact AH.none_put (by assumption) | exact AH.none_put (AH.none_put (by assumption)) | (simp only [AH.blk_setTok, AH.tok_put] at *; first | assumption | exact AH.none_put (by assumption)))) | (refine AH.le_setTok ?_ (by first | assumption | exact (AH.blk_put_ne _ _ (by assumption)).trans (by assumption) | exact AH.none_put (by assumption) | exact AH.none_put (AH.none_put (by assumption)) | (simp only [AH.blk_setTok, AH.tok_put] at *; first | assumption | exact AH.none_put (by assumption)))) | (refine AH.le_putM ?_ (by first | assumption | exact (AH.mp_putM_ne _ _ (by assumption)).trans (by assumption) | (simp only [AH.mp_put, AH.mp_setTok] at *; assumption)))))⟩
      rw [if_pos ⟨d1, by omega⟩] at hbs
      cases hb : bst l f P at_ j with
      | none =>
        rw [hb] at hbs
        simp only at hbs
        simp only [bsC]
        have h0f : 0 < f.length := by omega
        have h0l : 0 < l.length := by omega
        have h0c : (0 : Int) < (l.length : Int) := by omega
        have hd1 := i64s_drop h0f
        have hs1 := sms_drop h0l
        rw [Nat.zero_mul] at hs1
        obtain ⟨X1, hX1⟩ : ∃ X1, X1 = (i64s f).drop (0 + 1) := ⟨_, rfl⟩
        obtain ⟨X2, hX2⟩ : ∃ X2, X2 = (sms l).drop ((0 + 1) * 7) := ⟨_, rfl⟩
        have hd0 : (i64s f).drop 0 = I (f.getD 0 0) :: X1 := by rw [hd1, hX1]
        have hs0 : (sms l).drop 0 = I (l.getD 0 dS).id :: I (l.getD 0 dS).obv :: I (l.getD 0 dS).rev :: I (l.getD 0 dS).os :: I (l.getD 0 dS).rs :: I (l.getD 0 dS).ax :: I (l.getD 0 dS).wt :: X2 := by rw [hs1, hX2]
        have hmx : max (0 : Int) 0 = 0 := rfl
        have z00 : (0 : Int) ≤ 0 := Int.le_refl _
        have hneg : (-1 : Int) < 0 := by decide
        simp only [hc5, hdr, d1, he, he0, hec, i64s_drop hef, d2, AH.blk_put, h0c, hd0, hs0, z00, sms_drop hel, hneg, hmx, F_precedence_Why, g_precedence_Why, go_sem, reduceIte, Nat.reduceEqDiff, Nat.reduceAdd, Nat.reduceMul, Nat.reduceSub, reduceCtorEq, Nat.reduceLeDiff, Nat.reduceLT, Int.reduceLT, Int.reduceLE, Int.reduceToNat, Int.reduceAdd, Int.reduceSub, Int.reduceNeg, Int.reduceMul, Int.reduceEq, ← Bool.decide_and, ← Bool.decide_or, ↓tq_n, ↓tq_e, ↓tq_r, ↓bq_n, ↓bq_e, ↓bq_r, ↓rq_n, ↓rq_r, ↓rq_e]
        refine CallG.mk (r_cmp_Compare _ _ _) ?_
        simp only [hc5, hdr, d1, he, he0, hec, i64s_drop hef, d2, AH.blk_put, h0c, hd0, hs0, z00, sms_drop hel, hneg, hmx, F_precedence_Why, g_precedence_Why, go_sem, reduceIte, Nat.reduceEqDiff, Nat.reduceAdd, Nat.reduceMul, Nat.reduceSub, reduceCtorEq, Nat.reduceLeDiff, Nat.reduceLT, Int.reduceLT, Int.reduceLE, Int.reduceToNat, Int.reduceAdd, Int.reduceSub, Int.reduceNeg, Int.reduceMul, Int.reduceEq, ← Bool.decide_and, ← Bool.decide_or, ↓tq_n, ↓tq_e, ↓tq_r, ↓bq_n, ↓bq_e, ↓bq_r, ↓rq_n, ↓rq_r, ↓rq_e]
        refine CallG.mk (r_cmp_Compare _ _ _) ?_
        simp only [hc5, hdr, d1, he, he0, hec, i64s_drop hef, d2, AH.blk_put, h0c, hd0, hs0, z00, sms_drop hel, hneg, hmx, F_precedence_Why, g_precedence_Why, go_sem, reduceIte, Nat.reduceEqDiff, Nat.reduceAdd, Nat.reduceMul, Nat.reduceSub, reduceCtorEq, Nat.reduceLeDiff, Nat.reduceLT, Int.reduceLT, Int.reduceLE, Int.reduceToNat, Int.reduceAdd, Int.reduceSub, Int.reduceNeg, Int.reduceMul, Int.reduceEq, ← Bool.decide_and, ← Bool.decide_or, ↓tq_n, ↓tq_e, ↓tq_r, ↓bq_n, ↓bq_e, ↓bq_r, ↓rq_n, ↓rq_r, ↓rq_e]
        refine CallG.mk (r_cmp_Compare _ _ _) ?_
        simp only [hc5, hdr, d1, he, he0, hec, i64s_drop hef, d2, AH.blk_put, h0c, hd0, hs0, z00, sms_drop hel, hneg, hmx, F_precedence_Why, g_precedence_Why, go_sem, reduceIte, Nat.reduceEqDiff, Nat.reduceAdd, Nat.reduceMul, Nat.reduceSub, reduceCtorEq, Nat.reduceLeDiff, Nat.reduceLT, Int.reduceLT, Int.reduceLE, Int.reduceToNat, Int.reduceAdd, Int.reduceSub, Int.reduceNeg, Int.reduceMul, Int.reduceEq, ← Bool.decide_and, ← Bool.decide_or, ↓tq_n, ↓tq_e, ↓tq_r, ↓bq_n, ↓bq_e, ↓bq_r, ↓rq_n, ↓rq_r, ↓rq_e]
        refine CallG.mk (r_cmp_Or false [cmI (f.getD e 0) (f.getD 0 0), cmI (l.getD e dS).id (l.getD 0 dS).id, cmI p.1 (-1)] .full _) ?_
        simp only [hc5, hdr, d1, he, he0, hec, i64s_drop hef, d2, AH.blk_put, h0c, hd0, hs0, z00, sms_drop hel, hneg, hmx, F_precedence_Why, g_precedence_Why, go_sem, reduceIte, Nat.reduceEqDiff, Nat.reduceAdd, Nat.reduceMul, Nat.reduceSub, reduceCtorEq, Nat.reduceLeDiff, Nat.reduceLT, Int.reduceLT, Int.reduceLE, Int.reduceToNat, Int.reduceAdd, Int.reduceSub, Int.reduceNeg, Int.reduceMul, Int.reduceEq, ← Bool.decide_and, ← Bool.decide_or, ↓tq_n, ↓tq_e, ↓tq_r, ↓bq_n, ↓bq_e, ↓bq_r, ↓rq_n, ↓rq_r, ↓rq_e]
        refine ⟨by rw [inR64]; omega, j + 1, by omega, by omega, ?_⟩
        rw [hbs]
        simp only [bsC, d1, he]
        exact (GStep.forget (by repeat' first | exact EnvLe.nil _ | refine EnvLe.cons (AV.le.of_eq rfl) ?_ | refine EnvLe.cons (AV.le.undef _) ?_ | refine EnvLe.cons AV.le.unk ?_) (by repeat' first | exact AH.le.refl _ | assumption | (refine AH.le_put ?_ (by first | assumption | exact (AH.blk_put_ne _ _ (by assumption)).trans (by assumption) | exact AH.none_put (by assumption) | exact AH.none_put (AH.none_put (by assumption)) | (simp only [AH.blk_setTok, AH.tok_put] at *; first | assumption | exact AH.none_put (by assumption)))) | (refine AH.le_setTok ?_ (by first | assumption | exact (AH.blk_put_ne _ _ (by assumption)).trans (by assumption) | exact AH.none_put (by assumption) | exact AH.none_put (AH.none_put (by assumption)) | (simp only [AH.blk_setTok, AH.tok_put] at *; first | assumption | exact AH.none_put (by assumption)))) | (refine AH.le_putM ?_ (by first | assumption | exact (AH.mp_putM_ne _ _ (by assumption)).trans (by assumption) | (simp only [AH.mp_put, AH.mp_setTok] at *; assumption)))))
      | some q =>
        rw [hb] at hbs
        simp only at hbs
        simp only [bsC]
        obtain ⟨⟨k1, k2⟩, k3, k4⟩ := g3 q ((bst_spec (by omega)).1 q hb).1
        have k5 := g5 q ((bst_spec (by omega)).1 q hb).1
        obtain ⟨r, hr⟩ : ∃ r : Nat, q.2.2 = r := ⟨q.2.2.toNat, by omega⟩
        have hrl : r < l.length := by omega
        have hrf : r < f.length := by rw [hfl]; exact hrl
        have hrc : (r : Int) < (l.length : Int) := by omega
        have hr0 : (0 : Int) ≤ (r : Int) := by omega
        have qfv : fv f q.2.2 = f.getD r 0 := by unfold fv; rw [hr, Int.toNat_natCast]
        have qid : idA l q.2.2 = (l.getD r dS).id := by unfold idA; rw [hr, Int.toNat_natCast]
        have hk5 : ¬ q.1 < 0 := by omega
        have hmx : max (r : Int) 0 = r := by omega
        simp only [hc5, hdr, d1, he, he0, hec, i64s_drop hef, d2, AH.blk_put, hr, hr0, hrc, i64s_drop hrf, sms_drop hel, sms_drop hrl, hk5, hmx, F_precedence_Why, g_precedence_Why, go_sem, reduceIte, Nat.reduceEqDiff, Nat.reduceAdd, Nat.reduceMul, Nat.reduceSub, reduceCtorEq, Nat.reduceLeDiff, Nat.reduceLT, Int.reduceLT, Int.reduceLE, Int.reduceToNat, Int.reduceAdd, Int.reduceSub, Int.reduceNeg, Int.reduceMul, Int.reduceEq, ← Bool.decide_and, ← Bool.decide_or, ↓tq_n, ↓tq_e, ↓tq_r, ↓bq_n, ↓bq_e, ↓bq_r, ↓rq_n, ↓rq_r, ↓rq_e]
        refine CallG.mk (r_cmp_Compare _ _ _) ?_
        simp only [hc5, hdr, d1, he, he0, hec, i64s_drop hef, d2, AH.blk_put, hr, hr0, hrc, i64s_drop hrf, sms_drop hel, sms_drop hrl, hk5, hmx, F_precedence_Why, g_precedence_Why, go_sem, reduceIte, Nat.reduceEqDiff, Nat.reduceAdd, Nat.reduceMul, Nat.reduceSub, reduceCtorEq, Nat.reduceLeDiff, Nat.reduceLT, Int.reduceLT, Int.reduceLE, Int.reduceToNat, Int.reduceAdd, Int.reduceSub, Int.reduceNeg, Int.reduceMul, Int.reduceEq, ← Bool.decide_and, ← Bool.decide_or, ↓tq_n, ↓tq_e, ↓tq_r, ↓bq_n, ↓bq_e, ↓bq_r, ↓rq_n, ↓rq_r, ↓rq_e]
        refine CallG.mk (r_cmp_Compare _ _ _) ?_
        simp only [hc5, hdr, d1, he, he0, hec, i64s_drop hef, d2, AH.blk_put, hr, hr0, hrc, i64s_drop hrf, sms_drop hel, sms_drop hrl, hk5, hmx, F_precedence_Why, g_precedence_Why, go_sem, reduceIte, Nat.reduceEqDiff, Nat.reduceAdd, Nat.reduceMul, Nat.reduceSub, reduceCtorEq, Nat.reduceLeDiff, Nat.reduceLT, Int.reduceLT, Int.reduceLE, Int.reduceToNat, Int.reduceAdd, Int.reduceSub, Int.reduceNeg, Int.reduceMul, Int.reduceEq, ← Bool.decide_and, ← Bool.decide_or, ↓tq_n, ↓tq_e, ↓tq_r, ↓bq_n, ↓bq_e, ↓bq_r, ↓rq_n, ↓rq_r, ↓rq_e]
        refine CallG.mk (r_cmp_Compare _ _ _) ?_
        simp only [hc5, hdr, d1, he, he0, hec, i64s_drop hef, d2, AH.blk_put, hr, hr0, hrc, i64s_drop hrf, sms_drop hel, sms_drop hrl, hk5, hmx, F_precedence_Why, g_precedence_Why, go_sem, reduceIte, Nat.reduceEqDiff, Nat.reduceAdd, Nat.reduceMul, Nat.reduceSub, reduceCtorEq, Nat.reduceLeDiff, Nat.reduceLT, Int.reduceLT, Int.reduceLE, Int.reduceToNat, Int.reduceAdd, Int.reduceSub, Int.reduceNeg, Int.reduceMul, Int.reduceEq, ← Bool.decide_and, ← Bool.decide_or, ↓tq_n, ↓tq_e, ↓tq_r, ↓bq_n, ↓bq_e, ↓bq_r, ↓rq_n, ↓rq_r, ↓rq_e]
        refine CallG.mk (r_cmp_Or false [cmI (f.getD e 0) (f.getD r 0), cmI (l.getD e dS).id (l.getD r dS).id, cmI p.1 q.1] .full _) ?_
        have hbt : orI [cmI (f.getD e 0) (f.getD r 0), cmI (l.getD e dS).id (l.getD r dS).id, cmI p.1 q.1] < 0 ↔ btr l f p q := by rw [cmI_or]; unfold btr; rw [efv, qfv, eid, qid]
        obtain ⟨N, hN⟩ : ∃ N, N = orI [cmI (f.getD e 0) (f.getD r 0), cmI (l.getD e dS).id (l.getD r dS).id, cmI p.1 q.1] := ⟨_, rfl⟩
        rw [← hN] at hbt ⊢
        by_cases hN0 : N < 0
        · rw [if_pos (hbt.1 hN0)] at hbs
          simp only [hc5, hdr, d1, he, he0, hec, i64s_drop hef, d2, AH.blk_put, hr, hr0, hrc, i64s_drop hrf, sms_drop hel, sms_drop hrl, hk5, hmx, hN0, F_precedence_Why, g_precedence_Why, go_sem, reduceIte, Nat.reduceEqDiff, Nat.reduceAdd, Nat.reduceMul, Nat.reduceSub, reduceCtorEq, Nat.reduceLeDiff, Nat.reduceLT, Int.reduceLT, Int.reduceLE, Int.reduceToNat, Int.reduceAdd, Int.reduceSub, Int.reduceNeg, Int.reduceMul, Int.reduceEq, ← Bool.decide_and, ← Bool.decide_or, ↓tq_n, ↓tq_e, ↓tq_r, ↓bq_n, ↓bq_e, ↓bq_r, ↓rq_n, ↓rq_r, ↓rq_e]
          refine ⟨by rw [inR64]; omega, j + 1, by omega, by omega, ?_⟩
          rw [hbs]
          simp only [bsC, d1, he]
          exact (GStep.forget (by repeat' first | exact EnvLe.nil _ | refine EnvLe.cons (AV.le.of_eq rfl) ?_ | refine EnvLe.cons (AV.le.undef _) ?_ | refine EnvLe.cons AV.le.unk ?_) (by repeat' first | exact AH.le.refl _ | assumption | (refine AH.le_put ?_ (by first | assumption | exact (AH.blk_put_ne _ _ (by assumption)).trans (by assumption) | exact AH.none_put (by assumption) | exact AH.none_put (AH.none_put (by assumption)) | (simp only [AH.blk_setTok, AH.tok_put] at *; first | assumption | exact AH.none_put (by assumption)))) | (refine AH.le_setTok ?_ (by first | assumption | exact (AH.blk_put_ne _ _ (by assumption)).trans (by assumption) | exact AH.none_put (by assumption) | exact AH.none_put (AH.none_put (by assumption)) | (simp only [AH.blk_setTok, AH.tok_put] at *; first | assumption | exact AH.none_put (by assumption)))) | (refine AH.le_putM ?_ (by first | assumption | exact (AH.mp_putM_ne _ _ (by assumption)).trans (by assumption) | (simp only [AH.mp_put, AH.mp_setTok] at *; assumption)))))
        · rw [if_neg (fun hh => hN0 (hbt.2 hh))] at hbs
          simp only [hc5, hdr, d1, he, he0, hec, i64s_drop hef, d2, AH.blk_put, hr, hr0, hrc, i64s_drop hrf, sms_drop hel, sms_drop hrl, hk5, hmx, hN0, F_precedence_Why, g_precedence_Why, go_sem, reduceIte, Nat.reduceEqDiff, Nat.reduceAdd, Nat.reduceMul, Nat.reduceSub, reduceCtorEq, Nat.reduceLeDiff, Nat.reduceLT, Int.reduceLT, Int.reduceLE, Int.reduceToNat, Int.reduceAdd, Int.reduceSub, Int.reduceNeg, Int.reduceMul, Int.reduceEq, ← Bool.decide_and, ← Bool.decide_or, ↓tq_n, ↓tq_e, ↓tq_r, ↓bq_n, ↓bq_e, ↓bq_r, ↓rq_n, ↓rq_r, ↓rq_e]
          refine ⟨by rw [inR64]; omega, j + 1, by omega, by omega, ?_⟩
          rw [hbs]
          simp only [bsC, hr]
          exact (GStep.forget (by repeat' first | exact EnvLe.nil _ | refine EnvLe.cons (AV.le.of_eq rfl) ?_ | refine EnvLe.cons (AV.le.undef _) ?_ | refine EnvLe.cons AV.le.unk ?_) (by repeat' first | exact AH.le.refl _ | assumption | (refine AH.le_put ?_ (by first | assumption | exact (AH.blk_put_ne _ _ (by assumption)).trans (by assumption) | exact AH.none_put (by assumption) | exact AH.none_put (AH.none_put (by assumption)) | (simp only [AH.blk_setTok, AH.tok_put] at *; first | assumption | exact AH.none_put (by assumption)))) | (refine AH.le_setTok ?_ (by first | assumption | exact (AH.blk_put_ne _ _ (by assumption)).trans (by assumption) | exact AH.none_put (by assumption) | exact AH.none_put (AH.none_put (by assumption)) | (simp only [AH.blk_setTok, AH.tok_put] at *; first | assumption | exact AH.none_put (by assumption)))) | (refine AH.le_putM ?_ (by first | assumption | exact (AH.mp_putM_ne _ _ (by assumption)).trans (by assumption) | (simp only [AH.mp_put, AH.mp_setTok] at *; assumption)))))
    have h5 : j = P.length := by omega
    subst h5
    cases hb : bst l f P at_ P.length with
    | none =>
      simp only [bsC]
      have hneg : (-1 : Int) < 0 := by decide
      rw [wy_stop hP0 hD p2 p1 hstop hb] at hwv
      simp only [AH.blk_put, hneg, F_precedence_Why, g_precedence_Why, go_sem, reduceIte, Nat.reduceEqDiff, Nat.reduceAdd, Nat.reduceMul, Nat.reduceSub, reduceCtorEq, Nat.reduceLeDiff, Nat.reduceLT, Int.reduceLT, Int.reduceLE, Int.reduceToNat, Int.reduceAdd, Int.reduceSub, Int.reduceNeg, Int.reduceMul, Int.reduceEq, ← Bool.decide_and, ← Bool.decide_or, ↓tq_n, ↓tq_e, ↓tq_r, ↓bq_n, ↓bq_e, ↓bq_r, ↓rq_n, ↓rq_r, ↓rq_e]
      refine ret_hb (AH.le_put (AH.le_setTok p3 ht) (AH.none_of_le p3 hb16)) ?_
      rw [hwv]
    | some q =>
      simp only [bsC]
      obtain ⟨k', rfl, hw'⟩ := wy_next hP0 hD p2 p1 hstop hb
      have hq := ((bst_spec (l := l) (f := f) (P := P) (at_ := at_) (j := P.length) (Nat.le_refl _)).1 q hb)
      obtain ⟨⟨k1, k2⟩, k3, k4⟩ := g3 q hq.1
      have hk5 : ¬ q.1 < 0 := by have := g5 q hq.1; omega
      obtain ⟨r, hr⟩ : ∃ r : Nat, q.2.2 = r := ⟨q.2.2.toNat, by omega⟩
      obtain ⟨m, hm'⟩ : ∃ m : Nat, at_ = m := ⟨at_.toNat, by omega⟩
      have hrl : r < l.length := by omega
      have hml : m < l.length := by omega
      have hrc : (r : Int) < (l.length : Int) := by omega
      have hr0 : (0 : Int) ≤ (r : Int) := by omega
      have hmc : (m : Int) < (l.length : Int) := by omega
      have hm0 : (0 : Int) ≤ (m : Int) := by omega
      subst hm'
      have qid : idA l q.2.2 = (l.getD r dS).id := by unfold idA; rw [hr, Int.toNat_natCast]
      have mid : idA l (m : Int) = (l.getD m dS).id := by unfold idA; rw [Int.toNat_natCast]
      rw [qid, mid] at hw'
      have hol : o.length ≤ 100 := by omega
      rw [hr] at hw'
      simp only [AH.blk_put, hk5, hr, hr0, hrc, hm0, hmc, sms_drop hrl, sms_drop hml, F_precedence_Why, g_precedence_Why, go_sem, reduceIte, Nat.reduceEqDiff, Nat.reduceAdd, Nat.reduceMul, Nat.reduceSub, reduceCtorEq, Nat.reduceLeDiff, Nat.reduceLT, Int.reduceLT, Int.reduceLE, Int.reduceToNat, Int.reduceAdd, Int.reduceSub, Int.reduceNeg, Int.reduceMul, Int.reduceEq, ← Bool.decide_and, ← Bool.decide_or, ↓tq_n, ↓tq_e, ↓tq_r, ↓bq_n, ↓bq_e, ↓bq_r, ↓rq_n, ↓rq_r, ↓rq_e]
      refine ⟨by rw [trs_len], by omega, by omega, (o ++ [(q.1, (l.getD m dS).id, (l.getD r dS).id)], (r : Int), k', G.put b16 [I q.1, I q.2.1, I (r : Int)]), ⟨⟨hr0, hrc⟩, hw', AH.le_put p3 (AH.none_of_le p3 hb16), p4⟩, by simp only; omega, ?_⟩
      simp only [trs_snoc, List.length_append, List.length_singleton]
      exact (GStep.forget (by repeat' first | exact EnvLe.nil _ | refine EnvLe.cons (AV.le.of_eq rfl) ?_ | refine EnvLe.cons (AV.le.undef _) ?_ | refine EnvLe.cons AV.le.unk ?_) (by repeat' first | exact AH.le.refl _ | assumption | (refine AH.le_put ?_ (by first | assumption | exact (AH.blk_put_ne _ _ (by assumption)).trans (by assumption) | exact AH.none_put (by assumption) | exact AH.none_put (AH.none_put (by assumption)) | (simp only [AH.blk_setTok, AH.tok_put] at *; first | assumption | exact AH.none_put (by assumption)))) | (refine AH.le_setTok ?_ (by first | assumption | exact (AH.blk_put_ne _ _ (by assumption)).trans (by assumption) | exact AH.none_put (by assumption) | exact AH.none_put (AH.none_put (by assumption)) | (simp only [AH.blk_setTok, AH.tok_put] at *; first | assumption | exact AH.none_put (by assumption)))) | (refine AH.le_putM ?_ (by first | assumption | exact (AH.mp_putM_ne _ _ (by assumption)).trans (by assumption) | (simp only [AH.mp_put, AH.mp_setTok] at *; assumption)))))
end Go.Proofs.Ytndcbompcnlhmaa
