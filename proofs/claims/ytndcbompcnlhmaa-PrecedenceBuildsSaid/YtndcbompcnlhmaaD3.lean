/- Calls of functions of this seat's program: places of Ids, the pieces of evidence. No condition. -/
import Derived.Test.YtndcbompcnlhmaaD2
import Derived.Test.YtndcbompcnlhmaaC6
namespace Go.Proofs.Ytndcbompcnlhmaa
open Go Go.Abs
set_option linter.unusedSimpArgs false
set_option linter.unusedVariables false
set_option maxRecDepth 20000

/-- The place of an Id. -/
def plc (l : List Spm) (x : Int) : Int := findI (fun i => decide ((l.getD i dS).id = x)) l.length
theorem findI_lt {p : Nat → Bool} : ∀ {n : Nat}, 0 ≤ findI p n → (findI p n).toNat < n ∧ p (findI p n).toNat = true ∧ ∀ j, j < (findI p n).toNat → p j = false := by
  intro n h0
  have h1 := findI_nonneg.1 h0
  obtain ⟨i, hi, hp⟩ := List.any_eq_true.1 h1
  have hi := List.mem_range.1 hi
  have key : ∀ m, (∃ f, f < m ∧ p f = true) → ∃ f, f < m ∧ p f = true ∧ ∀ j, j < f → p j = false := by
    intro m
    induction m with
    | zero => rintro ⟨f, h, _⟩; omega
    | succ m ih =>
      rintro ⟨f, hf, hpf⟩
      by_cases hex : ∃ f, f < m ∧ p f = true
      · obtain ⟨g, g1, g2, g3⟩ := ih hex
        exact ⟨g, by omega, g2, g3⟩
      · refine ⟨f, hf, hpf, fun j hj => ?_⟩
        cases hpj : p j with
        | false => rfl
        | true => exact absurd ⟨j, by omega, hpj⟩ hex
  obtain ⟨f, f1, f2, f3⟩ := key n ⟨i, hi, hp⟩
  rw [findI_at f2 f3 f1]
  exact ⟨by simpa using f1, by simpa using f2, by simpa using f3⟩
theorem r_precedence_place_1 (x : Int) (s : Spm) (h : AH) : RCall Try.prog n_precedence_place_1 [stS s, .sptr [I x]] h (.bool (decide (s.id = x))) := by
  refine RCall.of hm cF_precedence_place_1 (by simp [g_precedence_place_1]) fun hw h' hl => ?_
  simp only [stS, Spm.cs, F_precedence_place_1, g_precedence_place_1, go_sem, reduceIte, Nat.reduceEqDiff, Nat.reduceAdd, Nat.reduceMul, Nat.reduceSub, reduceCtorEq, Nat.reduceLeDiff, Nat.reduceLT, Int.reduceLT, Int.reduceLE, Int.reduceToNat, Int.reduceAdd, Int.reduceSub, Int.reduceNeg, Int.reduceMul, Int.reduceEq, ← Bool.decide_and, ← Bool.decide_or, ↓tq_n, ↓tq_e, ↓tq_r, ↓bq_n, ↓bq_e, ↓bq_r, ↓rq_n, ↓rq_r, ↓rq_e]
  exact ret_ok rfl
theorem r_slices_IndexFunc_Specimen (nl : Bool) (e : List Spm) (tl : Tail) (f : FuncId) (caps : List AV) (p : Nat → Bool) (h : AH) (hp : ∀ i, i < e.length → RCall Try.prog f (stS (e.getD i dS) :: caps) h (.bool (p i))) :
    RCall Try.prog n_slices_IndexFunc_Specimen [.sl nl e.length (sms e) tl, .fn f caps] h (I (findI p e.length)) := by
  refine RCall.of hm cF_slices_IndexFunc_Specimen (by simp [g_slices_IndexFunc_Specimen]) fun hw h' hl => ?_
  have hx := wf_len (hw _ (.head _))
  simp only [F_slices_IndexFunc_Specimen, g_slices_IndexFunc_Specimen, go_sem, reduceIte, Nat.reduceEqDiff, Nat.reduceAdd, Nat.reduceMul, Nat.reduceSub, reduceCtorEq, Nat.reduceLeDiff, Nat.reduceLT, Int.reduceLT, Int.reduceLE, Int.reduceToNat, Int.reduceAdd, Int.reduceSub, Int.reduceNeg, Int.reduceMul, Int.reduceEq, ← Bool.decide_and, ← Bool.decide_or, ↓tq_n, ↓tq_e, ↓tq_r, ↓bq_n, ↓bq_e, ↓bq_r, ↓rq_n, ↓rq_r, ↓rq_e]
  refine awp_loop (fun i : Nat => [(0, .sl nl e.length (sms e) tl), (1, .fn f caps), (7, I e.length), (8, I i)]) (fun _ => h') (fun i => i ≤ e.length ∧ ∀ j, j < i → p j = false) (fun i => e.length - i) 0 ⟨by omega, by omega⟩ (GStep.forget (by repeat' first | exact EnvLe.nil _ | refine EnvLe.cons (AV.le.of_eq rfl) ?_ | refine EnvLe.cons (AV.le.undef _) ?_ | refine EnvLe.cons AV.le.unk ?_) (by repeat' first | exact AH.le.refl _ | assumption | (refine AH.le_put ?_ (by first | assumption | exact (AH.blk_put_ne _ _ (by assumption)).trans (by assumption) | exact AH.none_put (by assumption) | exact AH.none_put (AH.none_put (by assumption)) | (simp only [AH.blk_setTok, AH.tok_put] at *; first | assumption | exact AH.none_put (by assumption)))) | (refine AH.le_setTok ?_ (by first | assumption | exact (AH.blk_put_ne _ _ (by assumption)).trans (by assumption) | exact AH.none_put (by assumption) | exact AH.none_put (AH.none_put (by assumption)) | (simp only [AH.blk_setTok, AH.tok_put] at *; first | assumption | exact AH.none_put (by assumption)))) | (refine AH.le_putM ?_ (by first | assumption | exact (AH.mp_putM_ne _ _ (by assumption)).trans (by assumption) | (simp only [AH.mp_put, AH.mp_setTok] at *; assumption))))) fun i hi => .of_vg hm ?_
  obtain ⟨h1, h2⟩ := hi
  by_cases h3 : i < e.length
  · have hc : (i : Int) < (e.length : Int) := by omega
    simp only [hc, sms_drop h3, F_slices_IndexFunc_Specimen, g_slices_IndexFunc_Specimen, go_sem, reduceIte, Nat.reduceEqDiff, Nat.reduceAdd, Nat.reduceMul, Nat.reduceSub, reduceCtorEq, Nat.reduceLeDiff, Nat.reduceLT, Int.reduceLT, Int.reduceLE, Int.reduceToNat, Int.reduceAdd, Int.reduceSub, Int.reduceNeg, Int.reduceMul, Int.reduceEq, ← Bool.decide_and, ← Bool.decide_or, ↓tq_n, ↓tq_e, ↓tq_r, ↓bq_n, ↓bq_e, ↓bq_r, ↓rq_n, ↓rq_r, ↓rq_e]
    refine CallG.mk ((hp i h3).leB hl) ?_
    cases hpi : p i
    · simp only [F_slices_IndexFunc_Specimen, g_slices_IndexFunc_Specimen, go_sem, reduceIte, Nat.reduceEqDiff, Nat.reduceAdd, Nat.reduceMul, Nat.reduceSub, reduceCtorEq, Nat.reduceLeDiff, Nat.reduceLT, Int.reduceLT, Int.reduceLE, Int.reduceToNat, Int.reduceAdd, Int.reduceSub, Int.reduceNeg, Int.reduceMul, Int.reduceEq, ← Bool.decide_and, ← Bool.decide_or, ↓tq_n, ↓tq_e, ↓tq_r, ↓bq_n, ↓bq_e, ↓bq_r, ↓rq_n, ↓rq_r, ↓rq_e]
      exact ⟨by rw [inR64]; omega, i + 1, ⟨by omega, fun j hj => by rcases Nat.lt_succ_iff_lt_or_eq.1 hj with h | rfl; exact h2 j h; exact hpi⟩, by omega, (GStep.forget (by repeat' first | exact EnvLe.nil _ | refine EnvLe.cons (AV.le.of_eq rfl) ?_ | refine EnvLe.cons (AV.le.undef _) ?_ | refine EnvLe.cons AV.le.unk ?_) (by repeat' first | exact AH.le.refl _ | assumption | (refine AH.le_put ?_ (by first | assumption | exact (AH.blk_put_ne _ _ (by assumption)).trans (by assumption) | exact AH.none_put (by assumption) | exact AH.none_put (AH.none_put (by assumption)) | (simp only [AH.blk_setTok, AH.tok_put] at *; first | assumption | exact AH.none_put (by assumption)))) | (refine AH.le_setTok ?_ (by first | assumption | exact (AH.blk_put_ne _ _ (by assumption)).trans (by assumption) | exact AH.none_put (by assumption) | exact AH.none_put (AH.none_put (by assumption)) | (simp only [AH.blk_setTok, AH.tok_put] at *; first | assumption | exact AH.none_put (by assumption)))) | (refine AH.le_putM ?_ (by first | assumption | exact (AH.mp_putM_ne _ _ (by assumption)).trans (by assumption) | (simp only [AH.mp_put, AH.mp_setTok] at *; assumption)))))⟩
    · simp only [F_slices_IndexFunc_Specimen, g_slices_IndexFunc_Specimen, go_sem, reduceIte, Nat.reduceEqDiff, Nat.reduceAdd, Nat.reduceMul, Nat.reduceSub, reduceCtorEq, Nat.reduceLeDiff, Nat.reduceLT, Int.reduceLT, Int.reduceLE, Int.reduceToNat, Int.reduceAdd, Int.reduceSub, Int.reduceNeg, Int.reduceMul, Int.reduceEq, ← Bool.decide_and, ← Bool.decide_or, ↓tq_n, ↓tq_e, ↓tq_r, ↓bq_n, ↓bq_e, ↓bq_r, ↓rq_n, ↓rq_r, ↓rq_e]
      refine ret_hb (by repeat' first | exact AH.le.refl _ | assumption | (refine AH.le_put ?_ (by first | assumption | exact (AH.blk_put_ne _ _ (by assumption)).trans (by assumption) | exact AH.none_put (by assumption) | exact AH.none_put (AH.none_put (by assumption)) | (simp only [AH.blk_setTok, AH.tok_put] at *; first | assumption | exact AH.none_put (by assumption)))) | (refine AH.le_setTok ?_ (by first | assumption | exact (AH.blk_put_ne _ _ (by assumption)).trans (by assumption) | exact AH.none_put (by assumption) | exact AH.none_put (AH.none_put (by assumption)) | (simp only [AH.blk_setTok, AH.tok_put] at *; first | assumption | exact AH.none_put (by assumption)))) | (refine AH.le_putM ?_ (by first | assumption | exact (AH.mp_putM_ne _ _ (by assumption)).trans (by assumption) | (simp only [AH.mp_put, AH.mp_setTok] at *; assumption)))) ?_
      rw [findI_at hpi h2 h3]
  · have h3 : i = e.length := by omega
    subst h3
    simp only [F_slices_IndexFunc_Specimen, g_slices_IndexFunc_Specimen, go_sem, reduceIte, Nat.reduceEqDiff, Nat.reduceAdd, Nat.reduceMul, Nat.reduceSub, reduceCtorEq, Nat.reduceLeDiff, Nat.reduceLT, Int.reduceLT, Int.reduceLE, Int.reduceToNat, Int.reduceAdd, Int.reduceSub, Int.reduceNeg, Int.reduceMul, Int.reduceEq, ← Bool.decide_and, ← Bool.decide_or, ↓tq_n, ↓tq_e, ↓tq_r, ↓bq_n, ↓bq_e, ↓bq_r, ↓rq_n, ↓rq_r, ↓rq_e]
    refine ret_hb (by repeat' first | exact AH.le.refl _ | assumption | (refine AH.le_put ?_ (by first | assumption | exact (AH.blk_put_ne _ _ (by assumption)).trans (by assumption) | exact AH.none_put (by assumption) | exact AH.none_put (AH.none_put (by assumption)) | (simp only [AH.blk_setTok, AH.tok_put] at *; first | assumption | exact AH.none_put (by assumption)))) | (refine AH.le_setTok ?_ (by first | assumption | exact (AH.blk_put_ne _ _ (by assumption)).trans (by assumption) | exact AH.none_put (by assumption) | exact AH.none_put (AH.none_put (by assumption)) | (simp only [AH.blk_setTok, AH.tok_put] at *; first | assumption | exact AH.none_put (by assumption)))) | (refine AH.le_putM ?_ (by first | assumption | exact (AH.mp_putM_ne _ _ (by assumption)).trans (by assumption) | (simp only [AH.mp_put, AH.mp_setTok] at *; assumption)))) ?_
    rw [findI_neg h2]
theorem r_precedence_place (nl : Bool) (l : List Spm) (tl : Tail) (x : Int) (h : AH) : RCall Try.prog n_precedence_placeX [.sl nl l.length (sms l) tl, I x] h (I (plc l x)) := by
  refine RCall.of hm cF_precedence_placeX (by simp [g_precedence_placeX]) fun hw h' hl => ?_
  simp only [F_precedence_placeX, g_precedence_placeX, go_sem, reduceIte, Nat.reduceEqDiff, Nat.reduceAdd, Nat.reduceMul, Nat.reduceSub, reduceCtorEq, Nat.reduceLeDiff, Nat.reduceLT, Int.reduceLT, Int.reduceLE, Int.reduceToNat, Int.reduceAdd, Int.reduceSub, Int.reduceNeg, Int.reduceMul, Int.reduceEq, ← Bool.decide_and, ← Bool.decide_or, ↓tq_n, ↓tq_e, ↓tq_r, ↓bq_n, ↓bq_e, ↓bq_r, ↓rq_n, ↓rq_r, ↓rq_e]
  refine CallG.mk (r_slices_IndexFunc_Specimen nl l tl 61 [.sptr [I x]] (fun i => decide ((l.getD i dS).id = x)) _ (fun i hi => r_precedence_place_1 x _ _)) ?_
  simp only [F_precedence_placeX, g_precedence_placeX, go_sem, reduceIte, Nat.reduceEqDiff, Nat.reduceAdd, Nat.reduceMul, Nat.reduceSub, reduceCtorEq, Nat.reduceLeDiff, Nat.reduceLT, Int.reduceLT, Int.reduceLE, Int.reduceToNat, Int.reduceAdd, Int.reduceSub, Int.reduceNeg, Int.reduceMul, Int.reduceEq, ← Bool.decide_and, ← Bool.decide_or, ↓tq_n, ↓tq_e, ↓tq_r, ↓bq_n, ↓bq_e, ↓bq_r, ↓rq_n, ↓rq_r, ↓rq_e]
  exact ret_ok rfl
theorem r_ref_place (nl : Bool) (l : List Spm) (tl : Tail) (x : Int) (h : AH) : RCall Try.prog n_ref_place [.sl nl l.length (sms l) tl, I x] h (I (plc l x)) := by
  refine RCall.of hm cF_ref_place (by simp [g_ref_place]) fun hw h' hl => ?_
  have hx := wf_len (hw _ (.head _))
  simp only [F_ref_place, g_ref_place, go_sem, reduceIte, Nat.reduceEqDiff, Nat.reduceAdd, Nat.reduceMul, Nat.reduceSub, reduceCtorEq, Nat.reduceLeDiff, Nat.reduceLT, Int.reduceLT, Int.reduceLE, Int.reduceToNat, Int.reduceAdd, Int.reduceSub, Int.reduceNeg, Int.reduceMul, Int.reduceEq, ← Bool.decide_and, ← Bool.decide_or, ↓tq_n, ↓tq_e, ↓tq_r, ↓bq_n, ↓bq_e, ↓bq_r, ↓rq_n, ↓rq_r, ↓rq_e]
  refine awp_loop (fun i : Nat => [(0, .sl nl l.length (sms l) tl), (1, I x), (5, I i)]) (fun _ => h') (fun i => i ≤ l.length ∧ ∀ j, j < i → ¬ (l.getD j dS).id = x) (fun i => l.length - i) 0 ⟨by omega, by omega⟩ (GStep.forget (by repeat' first | exact EnvLe.nil _ | refine EnvLe.cons (AV.le.of_eq rfl) ?_ | refine EnvLe.cons (AV.le.undef _) ?_ | refine EnvLe.cons AV.le.unk ?_) (by repeat' first | exact AH.le.refl _ | assumption | (refine AH.le_put ?_ (by first | assumption | exact (AH.blk_put_ne _ _ (by assumption)).trans (by assumption) | exact AH.none_put (by assumption) | exact AH.none_put (AH.none_put (by assumption)) | (simp only [AH.blk_setTok, AH.tok_put] at *; first | assumption | exact AH.none_put (by assumption)))) | (refine AH.le_setTok ?_ (by first | assumption | exact (AH.blk_put_ne _ _ (by assumption)).trans (by assumption) | exact AH.none_put (by assumption) | exact AH.none_put (AH.none_put (by assumption)) | (simp only [AH.blk_setTok, AH.tok_put] at *; first | assumption | exact AH.none_put (by assumption)))) | (refine AH.le_putM ?_ (by first | assumption | exact (AH.mp_putM_ne _ _ (by assumption)).trans (by assumption) | (simp only [AH.mp_put, AH.mp_setTok] at *; assumption))))) fun i hi => .of_vg hm ?_
  obtain ⟨h1, h2⟩ := hi
  by_cases h3 : i < l.length
  · have hc : (i : Int) < (l.length : Int) := by omega
    by_cases c1 : (l.getD i dS).id = x
    · simp only [hc, sms_drop h3, decide_eq_true c1, F_ref_place, g_ref_place, go_sem, reduceIte, Nat.reduceEqDiff, Nat.reduceAdd, Nat.reduceMul, Nat.reduceSub, reduceCtorEq, Nat.reduceLeDiff, Nat.reduceLT, Int.reduceLT, Int.reduceLE, Int.reduceToNat, Int.reduceAdd, Int.reduceSub, Int.reduceNeg, Int.reduceMul, Int.reduceEq, ← Bool.decide_and, ← Bool.decide_or, ↓tq_n, ↓tq_e, ↓tq_r, ↓bq_n, ↓bq_e, ↓bq_r, ↓rq_n, ↓rq_r, ↓rq_e]
      exact ret_ok (by unfold plc; rw [findI_at (p := fun i => decide ((l.getD i dS).id = x)) (decide_eq_true c1) (fun j hj => decide_eq_false (h2 j hj)) h3])
    · simp only [hc, sms_drop h3, decide_eq_false c1, F_ref_place, g_ref_place, go_sem, reduceIte, Nat.reduceEqDiff, Nat.reduceAdd, Nat.reduceMul, Nat.reduceSub, reduceCtorEq, Nat.reduceLeDiff, Nat.reduceLT, Int.reduceLT, Int.reduceLE, Int.reduceToNat, Int.reduceAdd, Int.reduceSub, Int.reduceNeg, Int.reduceMul, Int.reduceEq, ← Bool.decide_and, ← Bool.decide_or, ↓tq_n, ↓tq_e, ↓tq_r, ↓bq_n, ↓bq_e, ↓bq_r, ↓rq_n, ↓rq_r, ↓rq_e]
      exact ⟨by rw [inR64]; omega, i + 1, ⟨by omega, fun j hj => by rcases Nat.lt_succ_iff_lt_or_eq.1 hj with h | rfl; exact h2 j h; exact c1⟩, by omega, (GStep.forget (by repeat' first | exact EnvLe.nil _ | refine EnvLe.cons (AV.le.of_eq rfl) ?_ | refine EnvLe.cons (AV.le.undef _) ?_ | refine EnvLe.cons AV.le.unk ?_) (by repeat' first | exact AH.le.refl _ | assumption | (refine AH.le_put ?_ (by first | assumption | exact (AH.blk_put_ne _ _ (by assumption)).trans (by assumption) | exact AH.none_put (by assumption) | exact AH.none_put (AH.none_put (by assumption)) | (simp only [AH.blk_setTok, AH.tok_put] at *; first | assumption | exact AH.none_put (by assumption)))) | (refine AH.le_setTok ?_ (by first | assumption | exact (AH.blk_put_ne _ _ (by assumption)).trans (by assumption) | exact AH.none_put (by assumption) | exact AH.none_put (AH.none_put (by assumption)) | (simp only [AH.blk_setTok, AH.tok_put] at *; first | assumption | exact AH.none_put (by assumption)))) | (refine AH.le_putM ?_ (by first | assumption | exact (AH.mp_putM_ne _ _ (by assumption)).trans (by assumption) | (simp only [AH.mp_put, AH.mp_setTok] at *; assumption)))))⟩
  · have h3 : i = l.length := by omega
    subst h3
    simp only [F_ref_place, g_ref_place, go_sem, reduceIte, Nat.reduceEqDiff, Nat.reduceAdd, Nat.reduceMul, Nat.reduceSub, reduceCtorEq, Nat.reduceLeDiff, Nat.reduceLT, Int.reduceLT, Int.reduceLE, Int.reduceToNat, Int.reduceAdd, Int.reduceSub, Int.reduceNeg, Int.reduceMul, Int.reduceEq, ← Bool.decide_and, ← Bool.decide_or, ↓tq_n, ↓tq_e, ↓tq_r, ↓bq_n, ↓bq_e, ↓bq_r, ↓rq_n, ↓rq_r, ↓rq_e]
    exact ret_ok (by unfold plc; rw [findI_neg (fun j hj => decide_eq_false (h2 j hj))])

/-- A triple with a kind. -/
def kin (k : Int) (p : Int × Int) : Int × Int × Int := (k, p.1, p.2)
/-- The arcs of a side. -/
abbrev sdA (l : List Spm) (s : Int) : List (Int × Int) := tbK (fun i k => bfS (l.getD i dS) (l.getD k dS) s) l.length l.length
/-- The pieces of the first sides. -/
def pcS (l : List Spm) : Nat → List (Int × Int × Int)
  | 0 => []
  | s + 1 => pcS l s ++ (sdA l (s : Int)).map (kin (s : Int))
/-- A claim as a piece. -/
def clP (l : List Spm) (q : Int × Int) : Int × Int × Int := (2, plc l q.1, plc l q.2)
/-- All pieces. -/
def pcs (l : List Spm) (c : List (Int × Int)) : List (Int × Int × Int) := pcS l 2 ++ c.map (clP l)
/-- The error of the evidence. -/
def gaE (l : List Spm) (c : List (Int × Int)) : Int :=
  if ckE l = 0 then
    (if 24 < l.length ∨ 64 < c.length then 6
    else if c.any (fun q => decide (plc l q.1 < 0 ∨ plc l q.2 < 0)) then 7
    else if c.any (fun q => decide (plc l q.1 = plc l q.2)) then 1 else 0)
  else ckE l
theorem sdA_len {l : List Spm} (h : l.length ≤ 24) (s : Int) : (sdA l s).length ≤ 576 := by
  have h1 := tbK_len (fun i k => bfS (l.getD i dS) (l.getD k dS) s) l.length l.length
  have h2 : l.length * l.length ≤ 24 * 24 := Nat.mul_le_mul h h
  show (tbK (fun i k => bfS (l.getD i dS) (l.getD k dS) s) l.length l.length).length ≤ 576
  omega
theorem pcS_len {l : List Spm} (h : l.length ≤ 24) : ∀ s, (pcS l s).length ≤ 576 * s := by
  intro s
  induction s with
  | zero => simp [pcS]
  | succ s ih =>
    have := sdA_len h (s : Int)
    rw [pcS, List.length_append, List.length_map]
    omega
theorem trs_snoc (P : List (Int × Int × Int)) (x : Int × Int × Int) : trs (P ++ [x]) = trs P ++ [I x.1, I x.2.1, I x.2.2] := by rw [trs_append]; rfl
/-- What gather returns. -/
def gaV (nl : Bool) (l : List Spm) (tl : Tail) (c : List (Int × Int)) : AV :=
  if gaE l c = 0 then .tup [.st [.sl nl l.length (sms l) tl, gl (trs (pcs l c)) (pcs l c).length .unk], I 0] else .tup [.st [.sl true 0 [] .full, .sl true 0 [] .full], I (gaE l c)]
theorem any_take_succ {α : Type} (d : α) {c : List α} {p : α → Bool} {i : Nat} (h : i < c.length) : (c.take (i + 1)).any p = ((c.take i).any p || p (c.getD i d)) := by
  rw [take_getD d h, List.any_append]; simp
set_option maxHeartbeats 4000000 in
theorem r_precedence_gather (nl : Bool) (l : List Spm) (tl : Tail) (n2 : Bool) (c : List (Int × Int)) (u2 : Tail) (h : AH) : RCall Try.prog n_precedence_gather [.sl nl l.length (sms l) tl, .sl n2 c.length (prs c) u2] h (gaV nl l tl c) := by
  refine RCall.of hm cF_precedence_gather (by simp [g_precedence_gather]) fun hw h' hl => ?_
  simp only [F_precedence_gather, g_precedence_gather, go_sem, reduceIte, Nat.reduceEqDiff, Nat.reduceAdd, Nat.reduceMul, Nat.reduceSub, reduceCtorEq, Nat.reduceLeDiff, Nat.reduceLT, Int.reduceLT, Int.reduceLE, Int.reduceToNat, Int.reduceAdd, Int.reduceSub, Int.reduceNeg, Int.reduceMul, Int.reduceEq, ← Bool.decide_and, ← Bool.decide_or, ↓tq_n, ↓tq_e, ↓tq_r, ↓bq_n, ↓bq_e, ↓bq_r, ↓rq_n, ↓rq_r, ↓rq_e]
  refine AllocG.mk fun b4 hb4 => ?_
  simp only [F_precedence_gather, g_precedence_gather, go_sem, reduceIte, Nat.reduceEqDiff, Nat.reduceAdd, Nat.reduceMul, Nat.reduceSub, reduceCtorEq, Nat.reduceLeDiff, Nat.reduceLT, Int.reduceLT, Int.reduceLE, Int.reduceToNat, Int.reduceAdd, Int.reduceSub, Int.reduceNeg, Int.reduceMul, Int.reduceEq, ← Bool.decide_and, ← Bool.decide_or, ↓tq_n, ↓tq_e, ↓tq_r, ↓bq_n, ↓bq_e, ↓bq_r, ↓rq_n, ↓rq_r, ↓rq_e]
  refine CallG.mk (r_specimen_Check nl l tl _) ?_
  by_cases c1 : ckE l = 0
  case neg =>
    have e1 : gaV nl l tl c = .tup [.st [.sl true 0 [] .full, .sl true 0 [] .full], I (ckE l)] := by
      have e0 : gaE l c = ckE l := by unfold gaE; rw [if_neg c1]
      unfold gaV; rw [if_neg (by rw [e0]; exact c1), e0]
    simp only [c1, F_precedence_gather, g_precedence_gather, go_sem, reduceIte, Nat.reduceEqDiff, Nat.reduceAdd, Nat.reduceMul, Nat.reduceSub, reduceCtorEq, Nat.reduceLeDiff, Nat.reduceLT, Int.reduceLT, Int.reduceLE, Int.reduceToNat, Int.reduceAdd, Int.reduceSub, Int.reduceNeg, Int.reduceMul, Int.reduceEq, ← Bool.decide_and, ← Bool.decide_or, ↓tq_n, ↓tq_e, ↓tq_r, ↓bq_n, ↓bq_e, ↓bq_r, ↓rq_n, ↓rq_r, ↓rq_e]
    exact ret_hb (by repeat' first | exact AH.le.refl _ | assumption | (refine AH.le_put ?_ (by first | assumption | exact (AH.blk_put_ne _ _ (by assumption)).trans (by assumption) | exact AH.none_put (by assumption) | exact AH.none_put (AH.none_put (by assumption)) | (simp only [AH.blk_setTok, AH.tok_put] at *; first | assumption | exact AH.none_put (by assumption)))) | (refine AH.le_setTok ?_ (by first | assumption | exact (AH.blk_put_ne _ _ (by assumption)).trans (by assumption) | exact AH.none_put (by assumption) | exact AH.none_put (AH.none_put (by assumption)) | (simp only [AH.blk_setTok, AH.tok_put] at *; first | assumption | exact AH.none_put (by assumption)))) | (refine AH.le_putM ?_ (by first | assumption | exact (AH.mp_putM_ne _ _ (by assumption)).trans (by assumption) | (simp only [AH.mp_put, AH.mp_setTok] at *; assumption)))) e1.symm
  by_cases c2 : 24 < l.length
  · have c2' : (24 : Int) < (l.length : Int) := by omega
    have e1 : gaV nl l tl c = .tup [.st [.sl true 0 [] .full, .sl true 0 [] .full], I 6] := by
      have e0 : gaE l c = 6 := by unfold gaE; rw [if_pos c1, if_pos (.inl c2)]
      unfold gaV; rw [if_neg (by rw [e0]; decide), e0]
    simp only [c1, c2', F_precedence_gather, g_precedence_gather, go_sem, reduceIte, Nat.reduceEqDiff, Nat.reduceAdd, Nat.reduceMul, Nat.reduceSub, reduceCtorEq, Nat.reduceLeDiff, Nat.reduceLT, Int.reduceLT, Int.reduceLE, Int.reduceToNat, Int.reduceAdd, Int.reduceSub, Int.reduceNeg, Int.reduceMul, Int.reduceEq, ← Bool.decide_and, ← Bool.decide_or, ↓tq_n, ↓tq_e, ↓tq_r, ↓bq_n, ↓bq_e, ↓bq_r, ↓rq_n, ↓rq_r, ↓rq_e]
    exact ret_hb (by repeat' first | exact AH.le.refl _ | assumption | (refine AH.le_put ?_ (by first | assumption | exact (AH.blk_put_ne _ _ (by assumption)).trans (by assumption) | exact AH.none_put (by assumption) | exact AH.none_put (AH.none_put (by assumption)) | (simp only [AH.blk_setTok, AH.tok_put] at *; first | assumption | exact AH.none_put (by assumption)))) | (refine AH.le_setTok ?_ (by first | assumption | exact (AH.blk_put_ne _ _ (by assumption)).trans (by assumption) | exact AH.none_put (by assumption) | exact AH.none_put (AH.none_put (by assumption)) | (simp only [AH.blk_setTok, AH.tok_put] at *; first | assumption | exact AH.none_put (by assumption)))) | (refine AH.le_putM ?_ (by first | assumption | exact (AH.mp_putM_ne _ _ (by assumption)).trans (by assumption) | (simp only [AH.mp_put, AH.mp_setTok] at *; assumption)))) e1.symm
  have c2' : ¬ (24 : Int) < (l.length : Int) := by omega
  by_cases c3 : 64 < c.length
  · have c3' : (64 : Int) < (c.length : Int) := by omega
    have e1 : gaV nl l tl c = .tup [.st [.sl true 0 [] .full, .sl true 0 [] .full], I 6] := by
      have e0 : gaE l c = 6 := by unfold gaE; rw [if_pos c1, if_pos (.inr c3)]
      unfold gaV; rw [if_neg (by rw [e0]; decide), e0]
    simp only [c1, c2', c3', F_precedence_gather, g_precedence_gather, go_sem, reduceIte, Nat.reduceEqDiff, Nat.reduceAdd, Nat.reduceMul, Nat.reduceSub, reduceCtorEq, Nat.reduceLeDiff, Nat.reduceLT, Int.reduceLT, Int.reduceLE, Int.reduceToNat, Int.reduceAdd, Int.reduceSub, Int.reduceNeg, Int.reduceMul, Int.reduceEq, ← Bool.decide_and, ← Bool.decide_or, ↓tq_n, ↓tq_e, ↓tq_r, ↓bq_n, ↓bq_e, ↓bq_r, ↓rq_n, ↓rq_r, ↓rq_e]
    exact ret_hb (by repeat' first | exact AH.le.refl _ | assumption | (refine AH.le_put ?_ (by first | assumption | exact (AH.blk_put_ne _ _ (by assumption)).trans (by assumption) | exact AH.none_put (by assumption) | exact AH.none_put (AH.none_put (by assumption)) | (simp only [AH.blk_setTok, AH.tok_put] at *; first | assumption | exact AH.none_put (by assumption)))) | (refine AH.le_setTok ?_ (by first | assumption | exact (AH.blk_put_ne _ _ (by assumption)).trans (by assumption) | exact AH.none_put (by assumption) | exact AH.none_put (AH.none_put (by assumption)) | (simp only [AH.blk_setTok, AH.tok_put] at *; first | assumption | exact AH.none_put (by assumption)))) | (refine AH.le_putM ?_ (by first | assumption | exact (AH.mp_putM_ne _ _ (by assumption)).trans (by assumption) | (simp only [AH.mp_put, AH.mp_setTok] at *; assumption)))) e1.symm
  have c3' : ¬ (64 : Int) < (c.length : Int) := by omega
  have hl24 : l.length ≤ 24 := by omega
  have hgE : gaE l c = if c.any (fun q => decide (plc l q.1 < 0 ∨ plc l q.2 < 0)) then 7 else if c.any (fun q => decide (plc l q.1 = plc l q.2)) then 1 else 0 := by
    unfold gaE; rw [if_pos c1, if_neg (by omega)]
  simp only [c1, c2', c3', F_precedence_gather, g_precedence_gather, go_sem, reduceIte, Nat.reduceEqDiff, Nat.reduceAdd, Nat.reduceMul, Nat.reduceSub, reduceCtorEq, Nat.reduceLeDiff, Nat.reduceLT, Int.reduceLT, Int.reduceLE, Int.reduceToNat, Int.reduceAdd, Int.reduceSub, Int.reduceNeg, Int.reduceMul, Int.reduceEq, ← Bool.decide_and, ← Bool.decide_or, ↓tq_n, ↓tq_e, ↓tq_r, ↓bq_n, ↓bq_e, ↓bq_r, ↓rq_n, ↓rq_r, ↓rq_e]
  refine AllocG.mk fun b7 hb7 => ?_
  have hne : b7 ≠ b4 := AH.ne_of_put hb7
  simp only [F_precedence_gather, g_precedence_gather, go_sem, reduceIte, Nat.reduceEqDiff, Nat.reduceAdd, Nat.reduceMul, Nat.reduceSub, reduceCtorEq, Nat.reduceLeDiff, Nat.reduceLT, Int.reduceLT, Int.reduceLE, Int.reduceToNat, Int.reduceAdd, Int.reduceSub, Int.reduceNeg, Int.reduceMul, Int.reduceEq, ← Bool.decide_and, ← Bool.decide_or, ↓tq_n, ↓tq_e, ↓tq_r, ↓bq_n, ↓bq_e, ↓bq_r, ↓rq_n, ↓rq_r, ↓rq_e]
  refine awp_tokB b7 1 3 (nl := true) (n := 0) (cs := []) (AH.blk_put _ _ _) rfl fun t ht => ?_
  obtain ⟨B, hB⟩ : ∃ B : AH, B = h'.put b4 [.sl true 0 [] .full, .sl true 0 [] .full] := ⟨_, rfl⟩
  obtain ⟨F, hF⟩ : ∃ F : List (Int × Int × Int) → List AV, ∀ Q, F Q = [.sl nl l.length (sms l) tl, gl (trs Q) Q.length (.tok t)] := ⟨_, fun _ => rfl⟩
  have hleB : h'.le B := by rw [hB]; exact (by repeat' first | exact AH.le.refl _ | assumption | (refine AH.le_put ?_ (by first | assumption | exact (AH.blk_put_ne _ _ (by assumption)).trans (by assumption) | exact AH.none_put (by assumption) | exact AH.none_put (AH.none_put (by assumption)) | (simp only [AH.blk_setTok, AH.tok_put] at *; first | assumption | exact AH.none_put (by assumption)))) | (refine AH.le_setTok ?_ (by first | assumption | exact (AH.blk_put_ne _ _ (by assumption)).trans (by assumption) | exact AH.none_put (by assumption) | exact AH.none_put (AH.none_put (by assumption)) | (simp only [AH.blk_setTok, AH.tok_put] at *; first | assumption | exact AH.none_put (by assumption)))) | (refine AH.le_putM ?_ (by first | assumption | exact (AH.mp_putM_ne _ _ (by assumption)).trans (by assumption) | (simp only [AH.mp_put, AH.mp_setTok] at *; assumption))))
  have ht' : h'.tok t = none := ht
  rw [← hB] at hb7 ht ⊢
  have hbB : B.blk b4 = some [.sl true 0 [] .full, .sl true 0 [] .full] := by rw [hB, AH.blk_put]
  have hfin : ∀ (cs : List AV) (k : Nat), h'.le ((B.put b7 cs).setTok t k 3) := fun cs k => by
    have hb7' : h'.blk b7 = none := AH.none_of_le hleB hb7
    exact (by repeat' first | exact AH.le.refl _ | assumption | (refine AH.le_put ?_ (by first | assumption | exact (AH.blk_put_ne _ _ (by assumption)).trans (by assumption) | exact AH.none_put (by assumption) | exact AH.none_put (AH.none_put (by assumption)) | (simp only [AH.blk_setTok, AH.tok_put] at *; first | assumption | exact AH.none_put (by assumption)))) | (refine AH.le_setTok ?_ (by first | assumption | exact (AH.blk_put_ne _ _ (by assumption)).trans (by assumption) | exact AH.none_put (by assumption) | exact AH.none_put (AH.none_put (by assumption)) | (simp only [AH.blk_setTok, AH.tok_put] at *; first | assumption | exact AH.none_put (by assumption)))) | (refine AH.le_putM ?_ (by first | assumption | exact (AH.mp_putM_ne _ _ (by assumption)).trans (by assumption) | (simp only [AH.mp_put, AH.mp_setTok] at *; assumption))))
  have hfin4 : ∀ (cs cs2 : List AV) (k : Nat), h'.le (((B.put b7 cs).setTok t k 3).put b4 cs2) := fun cs cs2 k => AH.le_put (hfin cs k) hb4
  refine awp_loop (fun i : Nat => [(0, .sl nl l.length (sms l) tl), (1, .sl n2 c.length (prs c) u2), (4, .ptr b4 0), (7, .ptr b7 0), (34, I i)]) (fun i => (B.put b7 (F (pcS l i))).setTok t (pcS l i).length 3) (fun i => i ≤ 2) (fun i => 2 - i) 0 (Nat.zero_le _) ?_ fun i hi => .of_vg hm ?_
  · rw [hF]
    simp only [AH.put_put]
    exact (GStep.forget (by repeat' first | exact EnvLe.nil _ | refine EnvLe.cons (AV.le.of_eq rfl) ?_ | refine EnvLe.cons (AV.le.undef _) ?_ | refine EnvLe.cons AV.le.unk ?_) (by repeat' first | exact AH.le.refl _ | assumption | (refine AH.le_put ?_ (by first | assumption | exact (AH.blk_put_ne _ _ (by assumption)).trans (by assumption) | exact AH.none_put (by assumption) | exact AH.none_put (AH.none_put (by assumption)) | (simp only [AH.blk_setTok, AH.tok_put] at *; first | assumption | exact AH.none_put (by assumption)))) | (refine AH.le_setTok ?_ (by first | assumption | exact (AH.blk_put_ne _ _ (by assumption)).trans (by assumption) | exact AH.none_put (by assumption) | exact AH.none_put (AH.none_put (by assumption)) | (simp only [AH.blk_setTok, AH.tok_put] at *; first | assumption | exact AH.none_put (by assumption)))) | (refine AH.le_putM ?_ (by first | assumption | exact (AH.mp_putM_ne _ _ (by assumption)).trans (by assumption) | (simp only [AH.mp_put, AH.mp_setTok] at *; assumption)))))
  by_cases h3 : i < 2
  · have hc3 : (i : Int) < 2 := by omega
    have hi01 : (i : Int) = 0 ∨ (i : Int) = 1 := by omega
    simp only [hc3, F_precedence_gather, g_precedence_gather, go_sem, reduceIte, Nat.reduceEqDiff, Nat.reduceAdd, Nat.reduceMul, Nat.reduceSub, reduceCtorEq, Nat.reduceLeDiff, Nat.reduceLT, Int.reduceLT, Int.reduceLE, Int.reduceToNat, Int.reduceAdd, Int.reduceSub, Int.reduceNeg, Int.reduceMul, Int.reduceEq, ← Bool.decide_and, ← Bool.decide_or, ↓tq_n, ↓tq_e, ↓tq_r, ↓bq_n, ↓bq_e, ↓bq_r, ↓rq_n, ↓rq_r, ↓rq_e]
    refine CallG.mk (r_wear_Before nl l tl i hi01 _) ?_
    have ea : arV (fun s t => bfS s t (i : Int)) l = .tup [gl (prs (sdA l (i : Int))) (sdA l (i : Int)).length .unk, I 0] := by unfold arV; rw [if_pos c1]
    rw [ea]
    have hA := sdA_len hl24 (i : Int)
    have hQ := pcS_len hl24 i
    have hsucc : pcS l (i + 1) = pcS l i ++ (sdA l (i : Int)).map (kin (i : Int)) := rfl
    obtain ⟨A, hAe⟩ : ∃ A, A = sdA l (i : Int) := ⟨_, rfl⟩
    obtain ⟨Q, hQe⟩ : ∃ Q, Q = pcS l i := ⟨_, rfl⟩
    rw [← hAe] at hA hsucc ⊢
    rw [← hQe] at hQ hsucc ⊢
    simp only [F_precedence_gather, g_precedence_gather, go_sem, reduceIte, Nat.reduceEqDiff, Nat.reduceAdd, Nat.reduceMul, Nat.reduceSub, reduceCtorEq, Nat.reduceLeDiff, Nat.reduceLT, Int.reduceLT, Int.reduceLE, Int.reduceToNat, Int.reduceAdd, Int.reduceSub, Int.reduceNeg, Int.reduceMul, Int.reduceEq, ← Bool.decide_and, ← Bool.decide_or, ↓tq_n, ↓tq_e, ↓tq_r, ↓bq_n, ↓bq_e, ↓bq_r, ↓rq_n, ↓rq_r, ↓rq_e]
    refine awp_loop (fun j : Nat => [(0, .sl nl l.length (sms l) tl), (1, .sl n2 c.length (prs c) u2), (4, .ptr b4 0), (7, .ptr b7 0), (8, I i), (34, I i), (43, gl (prs A) A.length .unk), (44, I A.length), (45, I j)]) (fun j => (B.put b7 (F (Q ++ (A.take j).map (kin (i : Int))))).setTok t (Q ++ (A.take j).map (kin (i : Int))).length 3) (fun j => j ≤ A.length) (fun j => A.length - j) 0 (Nat.zero_le _) ?_ fun j hj => .of_vg hm ?_
    · simp only [List.take_zero, List.map_nil, List.append_nil]
      exact (GStep.forget (by repeat' first | exact EnvLe.nil _ | refine EnvLe.cons (AV.le.of_eq rfl) ?_ | refine EnvLe.cons (AV.le.undef _) ?_ | refine EnvLe.cons AV.le.unk ?_) (by repeat' first | exact AH.le.refl _ | assumption | (refine AH.le_put ?_ (by first | assumption | exact (AH.blk_put_ne _ _ (by assumption)).trans (by assumption) | exact AH.none_put (by assumption) | exact AH.none_put (AH.none_put (by assumption)) | (simp only [AH.blk_setTok, AH.tok_put] at *; first | assumption | exact AH.none_put (by assumption)))) | (refine AH.le_setTok ?_ (by first | assumption | exact (AH.blk_put_ne _ _ (by assumption)).trans (by assumption) | exact AH.none_put (by assumption) | exact AH.none_put (AH.none_put (by assumption)) | (simp only [AH.blk_setTok, AH.tok_put] at *; first | assumption | exact AH.none_put (by assumption)))) | (refine AH.le_putM ?_ (by first | assumption | exact (AH.mp_putM_ne _ _ (by assumption)).trans (by assumption) | (simp only [AH.mp_put, AH.mp_setTok] at *; assumption)))))
    by_cases h4 : j < A.length
    · have hc4 : (j : Int) < (A.length : Int) := by omega
      have e1 : Q ++ (A.take (j + 1)).map (kin (i : Int)) = (Q ++ (A.take j).map (kin (i : Int))) ++ [kin (i : Int) (A.getD j (0, 0))] := by rw [take_getD (0, 0) h4, List.map_append, List.append_assoc]; rfl
      have hle : (Q ++ (A.take j).map (kin (i : Int))).length ≤ 5000 := by rw [List.length_append, List.length_map, List.length_take]; omega
      obtain ⟨R, hR⟩ : ∃ R, R = Q ++ (A.take j).map (kin (i : Int)) := ⟨_, rfl⟩
      rw [← hR] at e1 hle ⊢
      simp only [hc4, prs_drop h4, hF R, F_precedence_gather, g_precedence_gather, go_sem, reduceIte, Nat.reduceEqDiff, Nat.reduceAdd, Nat.reduceMul, Nat.reduceSub, reduceCtorEq, Nat.reduceLeDiff, Nat.reduceLT, Int.reduceLT, Int.reduceLE, Int.reduceToNat, Int.reduceAdd, Int.reduceSub, Int.reduceNeg, Int.reduceMul, Int.reduceEq, ← Bool.decide_and, ← Bool.decide_or, ↓tq_n, ↓tq_e, ↓tq_r, ↓bq_n, ↓bq_e, ↓bq_r, ↓rq_n, ↓rq_r, ↓rq_e]
      refine ⟨by rw [trs_len], by omega, by omega, by rw [inR64]; omega, j + 1, by omega, by omega, ?_⟩
      rw [e1, hF, trs_snoc, List.length_append]
      simp only [kin]
      exact (GStep.forget (by repeat' first | exact EnvLe.nil _ | refine EnvLe.cons (AV.le.of_eq rfl) ?_ | refine EnvLe.cons (AV.le.undef _) ?_ | refine EnvLe.cons AV.le.unk ?_) (by repeat' first | exact AH.le.refl _ | assumption | (refine AH.le_put ?_ (by first | assumption | exact (AH.blk_put_ne _ _ (by assumption)).trans (by assumption) | exact AH.none_put (by assumption) | exact AH.none_put (AH.none_put (by assumption)) | (simp only [AH.blk_setTok, AH.tok_put] at *; first | assumption | exact AH.none_put (by assumption)))) | (refine AH.le_setTok ?_ (by first | assumption | exact (AH.blk_put_ne _ _ (by assumption)).trans (by assumption) | exact AH.none_put (by assumption) | exact AH.none_put (AH.none_put (by assumption)) | (simp only [AH.blk_setTok, AH.tok_put] at *; first | assumption | exact AH.none_put (by assumption)))) | (refine AH.le_putM ?_ (by first | assumption | exact (AH.mp_putM_ne _ _ (by assumption)).trans (by assumption) | (simp only [AH.mp_put, AH.mp_setTok] at *; assumption)))))
    have h4 : j = A.length := by omega
    subst h4
    rw [List.take_length, ← hsucc]
    simp only [F_precedence_gather, g_precedence_gather, go_sem, reduceIte, Nat.reduceEqDiff, Nat.reduceAdd, Nat.reduceMul, Nat.reduceSub, reduceCtorEq, Nat.reduceLeDiff, Nat.reduceLT, Int.reduceLT, Int.reduceLE, Int.reduceToNat, Int.reduceAdd, Int.reduceSub, Int.reduceNeg, Int.reduceMul, Int.reduceEq, ← Bool.decide_and, ← Bool.decide_or, ↓tq_n, ↓tq_e, ↓tq_r, ↓bq_n, ↓bq_e, ↓bq_r, ↓rq_n, ↓rq_r, ↓rq_e]
    exact ⟨by rw [inR64]; omega, i + 1, by omega, by omega, (GStep.forget (by repeat' first | exact EnvLe.nil _ | refine EnvLe.cons (AV.le.of_eq rfl) ?_ | refine EnvLe.cons (AV.le.undef _) ?_ | refine EnvLe.cons AV.le.unk ?_) (by repeat' first | exact AH.le.refl _ | assumption | (refine AH.le_put ?_ (by first | assumption | exact (AH.blk_put_ne _ _ (by assumption)).trans (by assumption) | exact AH.none_put (by assumption) | exact AH.none_put (AH.none_put (by assumption)) | (simp only [AH.blk_setTok, AH.tok_put] at *; first | assumption | exact AH.none_put (by assumption)))) | (refine AH.le_setTok ?_ (by first | assumption | exact (AH.blk_put_ne _ _ (by assumption)).trans (by assumption) | exact AH.none_put (by assumption) | exact AH.none_put (AH.none_put (by assumption)) | (simp only [AH.blk_setTok, AH.tok_put] at *; first | assumption | exact AH.none_put (by assumption)))) | (refine AH.le_putM ?_ (by first | assumption | exact (AH.mp_putM_ne _ _ (by assumption)).trans (by assumption) | (simp only [AH.mp_put, AH.mp_setTok] at *; assumption)))))⟩
  have h3 : i = 2 := by omega
  subst h3
  have hQ := pcS_len hl24 2
  obtain ⟨Q, hQe⟩ : ∃ Q, Q = pcS l 2 := ⟨_, rfl⟩
  have hpc : pcs l c = Q ++ c.map (clP l) := by rw [hQe]; rfl
  rw [← hQe] at hQ ⊢
  have h22 : ((2 : Nat) : Int) = 2 := rfl
  simp only [h22, F_precedence_gather, g_precedence_gather, go_sem, reduceIte, Nat.reduceEqDiff, Nat.reduceAdd, Nat.reduceMul, Nat.reduceSub, reduceCtorEq, Nat.reduceLeDiff, Nat.reduceLT, Int.reduceLT, Int.reduceLE, Int.reduceToNat, Int.reduceAdd, Int.reduceSub, Int.reduceNeg, Int.reduceMul, Int.reduceEq, ← Bool.decide_and, ← Bool.decide_or, ↓tq_n, ↓tq_e, ↓tq_r, ↓bq_n, ↓bq_e, ↓bq_r, ↓rq_n, ↓rq_r, ↓rq_e]
  refine awp_loop (fun i : Nat => [(0, .sl nl l.length (sms l) tl), (4, .ptr b4 0), (7, .ptr b7 0), (13, .bool ((c.take i).any fun q => decide (plc l q.1 = plc l q.2))), (62, .sl n2 c.length (prs c) u2), (63, I c.length), (64, I i)]) (fun i => (B.put b7 (F (Q ++ (c.take i).map (clP l)))).setTok t (Q ++ (c.take i).map (clP l)).length 3) (fun i => i ≤ c.length ∧ (c.take i).any (fun q => decide (plc l q.1 < 0 ∨ plc l q.2 < 0)) = false) (fun i => c.length - i) 0 ⟨Nat.zero_le _, rfl⟩ ?_ fun i hi => .of_vg hm ?_
  · simp only [List.take_zero, List.map_nil, List.append_nil, List.any_nil]
    exact (GStep.forget (by repeat' first | exact EnvLe.nil _ | refine EnvLe.cons (AV.le.of_eq rfl) ?_ | refine EnvLe.cons (AV.le.undef _) ?_ | refine EnvLe.cons AV.le.unk ?_) (by repeat' first | exact AH.le.refl _ | assumption | (refine AH.le_put ?_ (by first | assumption | exact (AH.blk_put_ne _ _ (by assumption)).trans (by assumption) | exact AH.none_put (by assumption) | exact AH.none_put (AH.none_put (by assumption)) | (simp only [AH.blk_setTok, AH.tok_put] at *; first | assumption | exact AH.none_put (by assumption)))) | (refine AH.le_setTok ?_ (by first | assumption | exact (AH.blk_put_ne _ _ (by assumption)).trans (by assumption) | exact AH.none_put (by assumption) | exact AH.none_put (AH.none_put (by assumption)) | (simp only [AH.blk_setTok, AH.tok_put] at *; first | assumption | exact AH.none_put (by assumption)))) | (refine AH.le_putM ?_ (by first | assumption | exact (AH.mp_putM_ne _ _ (by assumption)).trans (by assumption) | (simp only [AH.mp_put, AH.mp_setTok] at *; assumption)))))
  obtain ⟨hi, hneg⟩ := hi
  by_cases h3 : i < c.length
  · have hc3 : (i : Int) < (c.length : Int) := by omega
    have e1 : Q ++ (c.take (i + 1)).map (clP l) = (Q ++ (c.take i).map (clP l)) ++ [clP l (c.getD i (0, 0))] := by rw [take_getD (0, 0) h3, List.map_append, List.append_assoc]; rfl
    have hle : (Q ++ (c.take i).map (clP l)).length ≤ 5000 := by rw [List.length_append, List.length_map, List.length_take]; omega
    have a1 := any_take_succ (0, 0) (p := fun q : Int × Int => decide (plc l q.1 < 0 ∨ plc l q.2 < 0)) h3
    have a2 := any_take_succ (0, 0) (p := fun q : Int × Int => decide (plc l q.1 = plc l q.2)) h3
    rw [hneg, Bool.false_or] at a1
    obtain ⟨R, hR⟩ : ∃ R, R = Q ++ (c.take i).map (clP l) := ⟨_, rfl⟩
    obtain ⟨sm, hsm⟩ : ∃ sm, sm = (c.take i).any fun q => decide (plc l q.1 = plc l q.2) := ⟨_, rfl⟩
    rw [← hR] at e1 hle ⊢
    rw [← hsm] at a2 ⊢
    have herr : (plc l (c.getD i (0, 0)).1 < 0 ∨ plc l (c.getD i (0, 0)).2 < 0) → gaV nl l tl c = .tup [.st [.sl true 0 [] .full, .sl true 0 [] .full], I 7] := fun hh => by
      have e0 : gaE l c = 7 := by
        rw [hgE, if_pos (List.any_eq_true.2 ⟨_, mem_getD (d := (0, 0)) h3, decide_eq_true hh⟩)]
      unfold gaV; rw [if_neg (by rw [e0]; decide), e0]
    simp only [hc3, prs_drop h3, F_precedence_gather, g_precedence_gather, go_sem, reduceIte, Nat.reduceEqDiff, Nat.reduceAdd, Nat.reduceMul, Nat.reduceSub, reduceCtorEq, Nat.reduceLeDiff, Nat.reduceLT, Int.reduceLT, Int.reduceLE, Int.reduceToNat, Int.reduceAdd, Int.reduceSub, Int.reduceNeg, Int.reduceMul, Int.reduceEq, ← Bool.decide_and, ← Bool.decide_or, ↓tq_n, ↓tq_e, ↓tq_r, ↓bq_n, ↓bq_e, ↓bq_r, ↓rq_n, ↓rq_r, ↓rq_e]
    refine CallG.mk (r_precedence_place nl l tl _ _) ?_
    simp only [F_precedence_gather, g_precedence_gather, go_sem, reduceIte, Nat.reduceEqDiff, Nat.reduceAdd, Nat.reduceMul, Nat.reduceSub, reduceCtorEq, Nat.reduceLeDiff, Nat.reduceLT, Int.reduceLT, Int.reduceLE, Int.reduceToNat, Int.reduceAdd, Int.reduceSub, Int.reduceNeg, Int.reduceMul, Int.reduceEq, ← Bool.decide_and, ← Bool.decide_or, ↓tq_n, ↓tq_e, ↓tq_r, ↓bq_n, ↓bq_e, ↓bq_r, ↓rq_n, ↓rq_r, ↓rq_e]
    refine CallG.mk (r_precedence_place nl l tl _ _) ?_
    by_cases d1 : plc l (c.getD i (0, 0)).1 < 0
    · rw [herr (.inl d1)]
      simp only [d1, AH.blk_put_ne _ _ hne.symm, hbB, F_precedence_gather, g_precedence_gather, go_sem, reduceIte, Nat.reduceEqDiff, Nat.reduceAdd, Nat.reduceMul, Nat.reduceSub, reduceCtorEq, Nat.reduceLeDiff, Nat.reduceLT, Int.reduceLT, Int.reduceLE, Int.reduceToNat, Int.reduceAdd, Int.reduceSub, Int.reduceNeg, Int.reduceMul, Int.reduceEq, ← Bool.decide_and, ← Bool.decide_or, ↓tq_n, ↓tq_e, ↓tq_r, ↓bq_n, ↓bq_e, ↓bq_r, ↓rq_n, ↓rq_r, ↓rq_e]
      exact ret_hb (hfin4 _ _ _) rfl
    by_cases d2 : plc l (c.getD i (0, 0)).2 < 0
    · rw [herr (.inr d2)]
      simp only [d1, d2, AH.blk_put_ne _ _ hne.symm, hbB, F_precedence_gather, g_precedence_gather, go_sem, reduceIte, Nat.reduceEqDiff, Nat.reduceAdd, Nat.reduceMul, Nat.reduceSub, reduceCtorEq, Nat.reduceLeDiff, Nat.reduceLT, Int.reduceLT, Int.reduceLE, Int.reduceToNat, Int.reduceAdd, Int.reduceSub, Int.reduceNeg, Int.reduceMul, Int.reduceEq, ← Bool.decide_and, ← Bool.decide_or, ↓tq_n, ↓tq_e, ↓tq_r, ↓bq_n, ↓bq_e, ↓bq_r, ↓rq_n, ↓rq_r, ↓rq_e]
      exact ret_hb (hfin4 _ _ _) rfl
    rw [decide_eq_false (by omega)] at a1
    cases sm with
    | true =>
      rw [Bool.true_or] at a2
      simp only [d1, d2, hF R, F_precedence_gather, g_precedence_gather, go_sem, reduceIte, Nat.reduceEqDiff, Nat.reduceAdd, Nat.reduceMul, Nat.reduceSub, reduceCtorEq, Nat.reduceLeDiff, Nat.reduceLT, Int.reduceLT, Int.reduceLE, Int.reduceToNat, Int.reduceAdd, Int.reduceSub, Int.reduceNeg, Int.reduceMul, Int.reduceEq, ← Bool.decide_and, ← Bool.decide_or, ↓tq_n, ↓tq_e, ↓tq_r, ↓bq_n, ↓bq_e, ↓bq_r, ↓rq_n, ↓rq_r, ↓rq_e]
      refine ⟨by rw [trs_len], by omega, by omega, by rw [inR64]; omega, i + 1, ⟨by omega, a1⟩, by omega, ?_⟩
      rw [a2, e1, hF, trs_snoc, List.length_append]
      simp only [clP]
      exact (GStep.forget (by repeat' first | exact EnvLe.nil _ | refine EnvLe.cons (AV.le.of_eq rfl) ?_ | refine EnvLe.cons (AV.le.undef _) ?_ | refine EnvLe.cons AV.le.unk ?_) (by repeat' first | exact AH.le.refl _ | assumption | (refine AH.le_put ?_ (by first | assumption | exact (AH.blk_put_ne _ _ (by assumption)).trans (by assumption) | exact AH.none_put (by assumption) | exact AH.none_put (AH.none_put (by assumption)) | (simp only [AH.blk_setTok, AH.tok_put] at *; first | assumption | exact AH.none_put (by assumption)))) | (refine AH.le_setTok ?_ (by first | assumption | exact (AH.blk_put_ne _ _ (by assumption)).trans (by assumption) | exact AH.none_put (by assumption) | exact AH.none_put (AH.none_put (by assumption)) | (simp only [AH.blk_setTok, AH.tok_put] at *; first | assumption | exact AH.none_put (by assumption)))) | (refine AH.le_putM ?_ (by first | assumption | exact (AH.mp_putM_ne _ _ (by assumption)).trans (by assumption) | (simp only [AH.mp_put, AH.mp_setTok] at *; assumption)))))
    | false =>
      rw [Bool.false_or] at a2
      simp only [d1, d2, hF R, F_precedence_gather, g_precedence_gather, go_sem, reduceIte, Nat.reduceEqDiff, Nat.reduceAdd, Nat.reduceMul, Nat.reduceSub, reduceCtorEq, Nat.reduceLeDiff, Nat.reduceLT, Int.reduceLT, Int.reduceLE, Int.reduceToNat, Int.reduceAdd, Int.reduceSub, Int.reduceNeg, Int.reduceMul, Int.reduceEq, ← Bool.decide_and, ← Bool.decide_or, ↓tq_n, ↓tq_e, ↓tq_r, ↓bq_n, ↓bq_e, ↓bq_r, ↓rq_n, ↓rq_r, ↓rq_e]
      refine ⟨by rw [trs_len], by omega, by omega, by rw [inR64]; omega, i + 1, ⟨by omega, a1⟩, by omega, ?_⟩
      rw [a2, e1, hF, trs_snoc, List.length_append]
      simp only [clP]
      exact (GStep.forget (by repeat' first | exact EnvLe.nil _ | refine EnvLe.cons (AV.le.of_eq rfl) ?_ | refine EnvLe.cons (AV.le.undef _) ?_ | refine EnvLe.cons AV.le.unk ?_) (by repeat' first | exact AH.le.refl _ | assumption | (refine AH.le_put ?_ (by first | assumption | exact (AH.blk_put_ne _ _ (by assumption)).trans (by assumption) | exact AH.none_put (by assumption) | exact AH.none_put (AH.none_put (by assumption)) | (simp only [AH.blk_setTok, AH.tok_put] at *; first | assumption | exact AH.none_put (by assumption)))) | (refine AH.le_setTok ?_ (by first | assumption | exact (AH.blk_put_ne _ _ (by assumption)).trans (by assumption) | exact AH.none_put (by assumption) | exact AH.none_put (AH.none_put (by assumption)) | (simp only [AH.blk_setTok, AH.tok_put] at *; first | assumption | exact AH.none_put (by assumption)))) | (refine AH.le_putM ?_ (by first | assumption | exact (AH.mp_putM_ne _ _ (by assumption)).trans (by assumption) | (simp only [AH.mp_put, AH.mp_setTok] at *; assumption)))))
  have h3 : i = c.length := by omega
  subst h3
  rw [List.take_length] at hneg ⊢
  rw [hneg, if_neg (by decide)] at hgE
  cases hsm : c.any fun q => decide (plc l q.1 = plc l q.2) with
  | true =>
    rw [hsm, if_pos rfl] at hgE
    have e0 : gaV nl l tl c = .tup [.st [.sl true 0 [] .full, .sl true 0 [] .full], I 1] := by unfold gaV; rw [if_neg (by rw [hgE]; decide), hgE]
    rw [e0]
    simp only [AH.blk_put_ne _ _ hne.symm, hbB, F_precedence_gather, g_precedence_gather, go_sem, reduceIte, Nat.reduceEqDiff, Nat.reduceAdd, Nat.reduceMul, Nat.reduceSub, reduceCtorEq, Nat.reduceLeDiff, Nat.reduceLT, Int.reduceLT, Int.reduceLE, Int.reduceToNat, Int.reduceAdd, Int.reduceSub, Int.reduceNeg, Int.reduceMul, Int.reduceEq, ← Bool.decide_and, ← Bool.decide_or, ↓tq_n, ↓tq_e, ↓tq_r, ↓bq_n, ↓bq_e, ↓bq_r, ↓rq_n, ↓rq_r, ↓rq_e]
    exact ret_hb (hfin4 _ _ _) rfl
  | false =>
    rw [hsm, if_neg (by decide)] at hgE
    have e0 : gaV nl l tl c = .tup [.st [.sl nl l.length (sms l) tl, gl (trs (pcs l c)) (pcs l c).length .unk], I 0] := by unfold gaV; rw [if_pos hgE]
    rw [e0, hpc]
    simp only [hF, AH.blk_put_ne _ _ hne.symm, hbB, F_precedence_gather, g_precedence_gather, go_sem, reduceIte, Nat.reduceEqDiff, Nat.reduceAdd, Nat.reduceMul, Nat.reduceSub, reduceCtorEq, Nat.reduceLeDiff, Nat.reduceLT, Int.reduceLT, Int.reduceLE, Int.reduceToNat, Int.reduceAdd, Int.reduceSub, Int.reduceNeg, Int.reduceMul, Int.reduceEq, ← Bool.decide_and, ← Bool.decide_or, ↓tq_n, ↓tq_e, ↓tq_r, ↓bq_n, ↓bq_e, ↓bq_r, ↓rq_n, ↓rq_r, ↓rq_e]
    refine ret_le (hfin4 _ _ _) (AV.le.tupC (.cons (AV.le.stC (.cons (AV.le.refl _) (.cons AV.le.unk .nil))) (.cons (AV.le.refl _) .nil)))
end Go.Proofs.Ytndcbompcnlhmaa
