/- Calls of functions of this seat's program: what is deleted from a list that may be written; one smallest contradictory set after the other, as the program takes them. No condition. -/
import Derived.Test.YtemfmnjhhdeedaaD26
import Derived.Test.YtemfmnjhhdeedaaC11
namespace Go.Proofs.Ytemfmnjhhdeedaa
open Go Go.Abs
set_option linter.unusedSimpArgs false
set_option linter.unusedVariables false
set_option maxRecDepth 20000

theorem first_hit (p : Nat → Bool) : ∀ n, (∀ j, j < n → p j = false) ∨ ∃ k, k < n ∧ p k = true ∧ ∀ j, j < k → p j = false := by
  intro n
  induction n with
  | zero => exact .inl fun j hj => absurd hj (Nat.not_lt_zero _)
  | succ n ih =>
    rcases ih with h | ⟨k, h1, h2, h3⟩
    · cases hp : p n with
      | true => exact .inr ⟨n, Nat.lt_succ_self n, hp, h⟩
      | false => exact .inl fun j hj => by rcases Nat.lt_succ_iff_lt_or_eq.1 hj with h' | rfl; exact h j h'; exact hp
    · exact .inr ⟨k, by omega, h2, h3⟩
theorem rmK_keep (T : List Int) {xs : List Int} : ∀ {k : Nat}, k ≤ xs.length → (∀ j, j < k → ¬ xs.getD j 0 ∈ T) → rmK T xs k = xs.take k := by
  intro k
  induction k with
  | zero => intro _ _; simp [rmK]
  | succ k ih =>
    intro hk h
    rw [rmK_succ T (by omega), if_neg (h k (by omega)), ih (by omega) (fun j hj => h j (by omega)), take_getD 0 (by omega)]
theorem set_take_at {zs : List Int} {i : Nat} (v : Int) (hi : i < zs.length) : (zs.set i v).take (i + 1) = zs.take i ++ [v] := by
  rw [take_getD 0 (by rw [List.length_set]; exact hi), List.take_set]
  congr 1
  · rw [List.set_eq_of_length_le (by rw [List.length_take]; omega)]
  · simp [List.getD, hi]
set_option maxHeartbeats 2000000 in
theorem s_DeleteFunc (xs T : List Int) (f : FuncId) (caps : List AV) (b q : Nat) (more : List AV) (h : AH) (hb : h.blk b = some (i64s xs ++ more)) (hq : xs.length ≤ q) (hx1 : xs.length ≤ 1000)
    (hp : ∀ x ∈ xs, ∀ cs, RCall Try.prog f (I x :: caps) (h.put b cs) (.bool (decide (x ∈ T)))) :
    ACalls Try.prog n_slices_DeleteFunc_int [.msl b 0 xs.length (some q), .fn f caps] h fun r g => ∃ more', r = .msl b 0 (rmv xs T).length (some q) ∧ g = h.put b (i64s (rmv xs T) ++ more') := by
  refine ACalls.of hm cF_slices_DeleteFunc_int (by simp [g_slices_DeleteFunc_int]) fun hw => ?_
  have hrd : Rd h (.msl b 0 xs.length (some q)) xs := .inr ⟨b, _, more, rfl, hb⟩
  obtain ⟨p, hpd⟩ : ∃ p : Nat → Bool, p = fun i => decide (xs.getD i 0 ∈ T) := ⟨_, rfl⟩
  have hself : h.put b (i64s xs ++ more) = h := AH.put_same hb
  simp only [F_slices_DeleteFunc_int, g_slices_DeleteFunc_int, go_sem, reduceIte, Nat.reduceEqDiff, Nat.reduceAdd, Nat.reduceMul, Nat.reduceSub, reduceCtorEq, Nat.reduceLeDiff, Nat.reduceLT, Int.reduceLT, Int.reduceLE, Int.reduceToNat, Int.reduceAdd, Int.reduceSub, Int.reduceNeg, Int.reduceMul, Int.reduceEq, ← Bool.decide_and, ← Bool.decide_or, ↓tq_n, ↓tq_e, ↓tq_r, ↓bq_n, ↓bq_e, ↓bq_r, ↓rq_n, ↓rq_r, ↓rq_e]
  refine CallG.mk (r_slices_IndexFunc_intR _ xs f caps p h hrd hx1 (fun i hi => by
    have := hp _ (mem_getD (d := 0) hi) (i64s xs ++ more)
    rw [hself] at this
    rw [hpd]; exact this)) ?_
  rcases first_hit p xs.length with hno | ⟨k, k1, k2, k3⟩
  · rw [findI_neg hno]
    have hr : rmv xs T = xs := by
      rw [← rmK_all, rmK_keep T (Nat.le_refl _) (fun j hj => by have := hno j hj; rw [hpd] at this; simpa using this), List.take_length]
    simp only [F_slices_DeleteFunc_int, g_slices_DeleteFunc_int, go_sem, reduceIte, Nat.reduceEqDiff, Nat.reduceAdd, Nat.reduceMul, Nat.reduceSub, reduceCtorEq, Nat.reduceLeDiff, Nat.reduceLT, Int.reduceLT, Int.reduceLE, Int.reduceToNat, Int.reduceAdd, Int.reduceSub, Int.reduceNeg, Int.reduceMul, Int.reduceEq, ← Bool.decide_and, ← Bool.decide_or, ↓tq_n, ↓tq_e, ↓tq_r, ↓bq_n, ↓bq_e, ↓bq_r, ↓rq_n, ↓rq_r, ↓rq_e]
    exact ⟨_, _, .refl _ _, more, by rw [hr], by rw [hr, hself]⟩
  rw [findI_at k2 k3 k1]
  have hkk : rmK T xs (k + 1) = xs.take k := by
    rw [rmK_succ T k1, if_pos (by rw [hpd] at k2; simpa using k2), rmK_keep T (by omega) (fun j hj => by have := k3 j hj; rw [hpd] at this; simpa using this)]
  have hkn : ¬ (k : Int) = -1 := by omega
  simp only [hkn, F_slices_DeleteFunc_int, g_slices_DeleteFunc_int, go_sem, reduceIte, Nat.reduceEqDiff, Nat.reduceAdd, Nat.reduceMul, Nat.reduceSub, reduceCtorEq, Nat.reduceLeDiff, Nat.reduceLT, Int.reduceLT, Int.reduceLE, Int.reduceToNat, Int.reduceAdd, Int.reduceSub, Int.reduceNeg, Int.reduceMul, Int.reduceEq, ← Bool.decide_and, ← Bool.decide_or, ↓tq_n, ↓tq_e, ↓tq_r, ↓bq_n, ↓bq_e, ↓bq_r, ↓rq_n, ↓rq_r, ↓rq_e]
  refine ⟨by rw [inR64]; omega, ?_⟩
  refine awp_loop (α := Nat × List Int) (fun y => [(0, .msl b 0 xs.length (some q)), (1, .fn f caps), (5, I (rmK T xs y.1).length), (6, I y.1)]) (fun y => h.put b (i64s y.2 ++ more)) (fun y => k < y.1 ∧ y.1 ≤ xs.length ∧ (rmK T xs y.1).length < y.1 ∧ y.2.length = xs.length ∧ y.2.take (rmK T xs y.1).length = rmK T xs y.1 ∧ y.2.drop y.1 = xs.drop y.1) (fun y => xs.length - y.1) (k + 1, xs) ⟨Nat.lt_succ_self k, k1, by simp only [hkk, List.length_take]; omega, rfl, by simp only [hkk, List.length_take]; rw [Nat.min_eq_left (by omega)], rfl⟩ (by simp only [hkk, List.length_take, Nat.min_eq_left (Nat.le_of_lt k1), hself]; exact (GStep.forget (by repeat' first | exact EnvLe.nil _ | refine EnvLe.cons (AV.le.of_eq rfl) ?_ | refine EnvLe.cons (AV.le.undef _) ?_ | refine EnvLe.cons AV.le.unk ?_) (by repeat' first | exact AH.le.refl _ | assumption | (refine AH.le_put ?_ (by first | assumption | exact (AH.blk_put_ne _ _ (by assumption)).trans (by assumption) | exact AH.none_put (by assumption) | exact AH.none_put (AH.none_put (by assumption)) | (simp only [AH.blk_setTok, AH.tok_put] at *; first | assumption | exact AH.none_put (by assumption)))) | (refine AH.le_setTok ?_ (by first | assumption | exact (AH.blk_put_ne _ _ (by assumption)).trans (by assumption) | exact AH.none_put (by assumption) | exact AH.none_put (AH.none_put (by assumption)) | (simp only [AH.blk_setTok, AH.tok_put] at *; first | assumption | exact AH.none_put (by assumption)))) | (refine AH.le_putM ?_ (by first | assumption | exact (AH.mp_putM_ne _ _ (by assumption)).trans (by assumption) | (simp only [AH.mp_put, AH.mp_setTok] at *; assumption)))))) fun y hy => .of_vg hm ?_
  obtain ⟨j, zs⟩ := y
  obtain ⟨y1, y2, y3, y4, y5, y6⟩ := hy
  simp only at y1 y2 y3 y4 y5 y6
  have hlen : (i64s zs ++ more).length = xs.length + more.length := by rw [List.length_append, i64s_len, y4]
  by_cases h3 : j < xs.length
  · have hc : (j : Int) < (xs.length : Int) := by omega
    have hj0 : (0 : Int) ≤ (j : Int) := by omega
    have hsucc := rmK_succ T h3
    have hrd2 : Rd (h.put b (i64s zs ++ more)) (.msl b 0 xs.length (some q)) zs := .inr ⟨b, _, more, by rw [y4], AH.blk_put _ _ _⟩
    have hzj : zs.getD j 0 = xs.getD j 0 := by
      have e1 := getD_drop zs 0 (show j < zs.length by omega)
      have e2 := getD_drop xs 0 h3
      rw [y6, e2] at e1
      injection e1 with e3 e4
      exact e3.symm
    have hcz : (j : Int) < (zs.length : Int) := by omega
    have hjz : j < zs.length := by omega
    have hix := fun K => rd_ix (K := K) hrd2 (kd := .i64) (j := (j : Int))
    simp only [hc, hcz, hj0, hix, rd_ld hrd2 hjz, F_slices_DeleteFunc_int, g_slices_DeleteFunc_int, go_sem, reduceIte, Nat.reduceEqDiff, Nat.reduceAdd, Nat.reduceMul, Nat.reduceSub, reduceCtorEq, Nat.reduceLeDiff, Nat.reduceLT, Int.reduceLT, Int.reduceLE, Int.reduceToNat, Int.reduceAdd, Int.reduceSub, Int.reduceNeg, Int.reduceMul, Int.reduceEq, ← Bool.decide_and, ← Bool.decide_or, ↓tq_n, ↓tq_e, ↓tq_r, ↓bq_n, ↓bq_e, ↓bq_r, ↓rq_n, ↓rq_r, ↓rq_e]
    rw [hzj]
    refine CallG.mk (hp _ (mem_getD (d := 0) h3) _) ?_
    by_cases hin : xs.getD j 0 ∈ T
    · rw [if_pos hin] at hsucc
      rw [decide_eq_true hin]
      simp only [F_slices_DeleteFunc_int, g_slices_DeleteFunc_int, go_sem, reduceIte, Nat.reduceEqDiff, Nat.reduceAdd, Nat.reduceMul, Nat.reduceSub, reduceCtorEq, Nat.reduceLeDiff, Nat.reduceLT, Int.reduceLT, Int.reduceLE, Int.reduceToNat, Int.reduceAdd, Int.reduceSub, Int.reduceNeg, Int.reduceMul, Int.reduceEq, ← Bool.decide_and, ← Bool.decide_or, ↓tq_n, ↓tq_e, ↓tq_r, ↓bq_n, ↓bq_e, ↓bq_r, ↓rq_n, ↓rq_r, ↓rq_e]
      refine ⟨by rw [inR64]; omega, (j + 1, zs), ⟨by simp only; omega, by simp only; omega, by simp only [hsucc]; omega, y4, by simp only [hsucc]; exact y5, ?_⟩, by simp only; omega, ?_⟩
      · simp only
        rw [← List.drop_drop, ← List.drop_drop, y6]
      · simp only [hsucc]
        exact (GStep.forget (by repeat' first | exact EnvLe.nil _ | refine EnvLe.cons (AV.le.of_eq rfl) ?_ | refine EnvLe.cons (AV.le.undef _) ?_ | refine EnvLe.cons AV.le.unk ?_) (by repeat' first | exact AH.le.refl _ | assumption | (refine AH.le_put ?_ (by first | assumption | exact (AH.blk_put_ne _ _ (by assumption)).trans (by assumption) | exact AH.none_put (by assumption) | exact AH.none_put (AH.none_put (by assumption)) | (simp only [AH.blk_setTok, AH.tok_put] at *; first | assumption | exact AH.none_put (by assumption)))) | (refine AH.le_setTok ?_ (by first | assumption | exact (AH.blk_put_ne _ _ (by assumption)).trans (by assumption) | exact AH.none_put (by assumption) | exact AH.none_put (AH.none_put (by assumption)) | (simp only [AH.blk_setTok, AH.tok_put] at *; first | assumption | exact AH.none_put (by assumption)))) | (refine AH.le_putM ?_ (by first | assumption | exact (AH.mp_putM_ne _ _ (by assumption)).trans (by assumption) | (simp only [AH.mp_put, AH.mp_setTok] at *; assumption)))))
    · rw [if_neg hin] at hsucc
      rw [decide_eq_false hin]
      obtain ⟨i, hi⟩ : ∃ i, i = (rmK T xs j).length := ⟨_, rfl⟩
      rw [← hi] at y3 y5 ⊢
      have hci : (i : Int) < (xs.length : Int) := by omega
      have hi0 : (0 : Int) ≤ (i : Int) := by omega
      have hset : (i64s zs ++ more).set i (I (xs.getD j 0)) = i64s (zs.set i (xs.getD j 0)) ++ more := by
        rw [List.set_append, if_pos (by rw [i64s_len]; omega), i64s_set]
      have hil : i + 1 ≤ (i64s zs ++ more).length := by rw [hlen]; omega
      simp only [hci, hi0, hset, hil, F_slices_DeleteFunc_int, g_slices_DeleteFunc_int, go_sem, reduceIte, Nat.reduceEqDiff, Nat.reduceAdd, Nat.reduceMul, Nat.reduceSub, reduceCtorEq, Nat.reduceLeDiff, Nat.reduceLT, Int.reduceLT, Int.reduceLE, Int.reduceToNat, Int.reduceAdd, Int.reduceSub, Int.reduceNeg, Int.reduceMul, Int.reduceEq, ← Bool.decide_and, ← Bool.decide_or, ↓tq_n, ↓tq_e, ↓tq_r, ↓bq_n, ↓bq_e, ↓bq_r, ↓rq_n, ↓rq_r, ↓rq_e]
      have hl2 : (rmK T xs (j + 1)).length = i + 1 := by rw [hsucc, List.length_append, ← hi]; rfl
      refine ⟨by rw [inR64]; omega, by rw [inR64]; omega, (j + 1, zs.set i (xs.getD j 0)), ⟨by simp only; omega, by simp only; omega, by simp only [hl2]; omega, by simp only [List.length_set]; exact y4, ?_, ?_⟩, by simp only; omega, ?_⟩
      · simp only [hl2]
        rw [set_take_at _ (by omega), y5, hsucc]
      · simp only
        rw [List.drop_set_of_lt (by omega), ← List.drop_drop, ← List.drop_drop, y6]
      · simp only [hl2]
        exact (GStep.forget (by repeat' first | exact EnvLe.nil _ | refine EnvLe.cons (AV.le.of_eq rfl) ?_ | refine EnvLe.cons (AV.le.undef _) ?_ | refine EnvLe.cons AV.le.unk ?_) (by repeat' first | exact AH.le.refl _ | assumption | (refine AH.le_put ?_ (by first | assumption | exact (AH.blk_put_ne _ _ (by assumption)).trans (by assumption) | exact AH.none_put (by assumption) | exact AH.none_put (AH.none_put (by assumption)) | (simp only [AH.blk_setTok, AH.tok_put] at *; first | assumption | exact AH.none_put (by assumption)))) | (refine AH.le_setTok ?_ (by first | assumption | exact (AH.blk_put_ne _ _ (by assumption)).trans (by assumption) | exact AH.none_put (by assumption) | exact AH.none_put (AH.none_put (by assumption)) | (simp only [AH.blk_setTok, AH.tok_put] at *; first | assumption | exact AH.none_put (by assumption)))) | (refine AH.le_putM ?_ (by first | assumption | exact (AH.mp_putM_ne _ _ (by assumption)).trans (by assumption) | (simp only [AH.mp_put, AH.mp_setTok] at *; assumption)))))
  have h3 : j = xs.length := by omega
  subst h3
  rw [rmK_all] at y3 y5 ⊢
  obtain ⟨i, hi⟩ : ∃ i, i = (rmv xs T).length := ⟨_, rfl⟩
  rw [← hi] at y3 y5 ⊢
  simp only [mslCut_lt (show i < q by omega), F_slices_DeleteFunc_int, g_slices_DeleteFunc_int, go_sem, reduceIte, Nat.reduceEqDiff, Nat.reduceAdd, Nat.reduceMul, Nat.reduceSub, reduceCtorEq, Nat.reduceLeDiff, Nat.reduceLT, Int.reduceLT, Int.reduceLE, Int.reduceToNat, Int.reduceAdd, Int.reduceSub, Int.reduceNeg, Int.reduceMul, Int.reduceEq, ← Bool.decide_and, ← Bool.decide_or, ↓tq_n, ↓tq_e, ↓tq_r, ↓bq_n, ↓bq_e, ↓bq_r, ↓rq_n, ↓rq_r, ↓rq_e]
  refine ⟨hq, by omega, by rw [hlen]; omega, by omega, Nat.zero_le _, _, _, .refl _ _, (List.replicate (xs.length - i) [AV.int IntKind.i64 0]).flatten ++ (i64s zs ++ more).drop (i + (List.replicate (xs.length - i) [AV.int IntKind.i64 0]).flatten.length), rfl, ?_⟩
  have hfl : (List.replicate (xs.length - i) [AV.int IntKind.i64 0]).flatten.length = xs.length - i := by simp
  congr 1
  rw [spl_eq _ _ _ (by rw [hfl, hlen]; omega), List.append_assoc, List.take_append_of_le_length (by rw [i64s_len]; omega), i64s_take, y5]
/-- A list of numbers in memory that lay nowhere before. -/
def Gw (h0 : AH) (x : AV) (xs : List Int) (h : AH) : Prop := h0.le h ∧ ((xs = [] ∧ x = .sl true 0 [] .full) ∨ ∃ b q more, x = .msl b 0 xs.length (some q) ∧ xs.length ≤ q ∧ h.blk b = some (i64s xs ++ more) ∧ h0.blk b = none)
theorem gr_gw {h0 h : AH} {x : AV} {xs : List Int} (k : Gr h0 x xs h) : Gw h0 x xs h := by
  rcases k with ⟨hl, k | ⟨hne, b, q, h1, h2, h3, h4⟩⟩
  · exact ⟨hl, .inl k⟩
  · exact ⟨hl, .inr ⟨b, q, _, h1, h2, h3, h4⟩⟩
theorem Gw.rd {h0 h : AH} {x : AV} {xs : List Int} (k : Gw h0 x xs h) : Rd h x xs := by
  rcases k with ⟨_, ⟨rfl, rfl⟩ | ⟨b, q, more, rfl, _, hb, _⟩⟩
  · exact .inl ⟨_, _, rfl⟩
  · exact .inr ⟨b, _, _, rfl, hb⟩
theorem tok_of_le {h0 h : AH} (hl : h0.le h) {t : Nat} (ht : h.tok t = none) : h0.tok t = none := by
  cases he : h0.tok t with
  | none => rfl
  | some v =>
    have := hl.tok t v he
    rw [ht] at this; cases this
theorem rd_blk {h g : AH} {x : AV} {xs : List Int} (k : Rd h x xs) (hb : g.blk = h.blk) : Rd g x xs := by
  rcases k with k | ⟨b, cap, rest, h1, h2⟩
  · exact .inl k
  · exact .inr ⟨b, cap, rest, h1, by rw [hb]; exact h2⟩
/-- The closure that asks whether a piece was taken. -/
theorem r_attribution_Packing_1 (x : Int) (b : Nat) (T : List Int) (nl : Bool) (tl : Tail) (h : AH) (hb : h.blk b = some [.sl nl T.length (i64s T) tl]) : RCall Try.prog n_attribution_Packing_1 [I x, .ptr b 0] h (.bool (decide (x ∈ T))) := by
  refine RCall.of hm cF_attribution_Packing_1 (by simp [g_attribution_Packing_1]) fun hw h' hl => ?_
  have hb := hl.1 _ _ hb
  simp only [hb, F_attribution_Packing_1, g_attribution_Packing_1, go_sem, reduceIte, Nat.reduceEqDiff, Nat.reduceAdd, Nat.reduceMul, Nat.reduceSub, reduceCtorEq, Nat.reduceLeDiff, Nat.reduceLT, Int.reduceLT, Int.reduceLE, Int.reduceToNat, Int.reduceAdd, Int.reduceSub, Int.reduceNeg, Int.reduceMul, Int.reduceEq, ← Bool.decide_and, ← Bool.decide_or, ↓tq_n, ↓tq_e, ↓tq_r, ↓bq_n, ↓bq_e, ↓bq_r, ↓rq_n, ↓rq_r, ↓rq_e]
  refine CallG.mk (r_slices_Contains_int nl T tl x _) ?_
  simp only [F_attribution_Packing_1, g_attribution_Packing_1, go_sem, reduceIte, Nat.reduceEqDiff, Nat.reduceAdd, Nat.reduceMul, Nat.reduceSub, reduceCtorEq, Nat.reduceLeDiff, Nat.reduceLT, Int.reduceLT, Int.reduceLE, Int.reduceToNat, Int.reduceAdd, Int.reduceSub, Int.reduceNeg, Int.reduceMul, Int.reduceEq, ← Bool.decide_and, ← Bool.decide_or, ↓tq_n, ↓tq_e, ↓tq_r, ↓bq_n, ↓bq_e, ↓bq_r, ↓rq_n, ↓rq_r, ↓rq_e]
  exact ret_ok rfl
theorem AH.le_blk_ne {h0 h : AH} (hl : h0.le h) {b : Nat} (hb : h.blk b = none) : h0.blk b = none := AH.none_of_le hl hb
set_option maxHeartbeats 4000000 in
theorem r_attribution_PackingM (n : Int) (n1 : Bool) (a : List (Int × Int)) (u1 : Tail) (n2 : Bool) (w : List Int) (u2 : Tail) (h : AH) : RCall Try.prog n_attribution_PackingM [I n, .sl n1 a.length (prs a) u1, .sl n2 w.length (i64s w) u2] h (pkV n a w) := by
  refine RCall.of hm cF_attribution_PackingM (by simp [g_attribution_PackingM]) fun hw h' hl => ?_
  simp only [F_attribution_PackingM, g_attribution_PackingM, go_sem, reduceIte, Nat.reduceEqDiff, Nat.reduceAdd, Nat.reduceMul, Nat.reduceSub, reduceCtorEq, Nat.reduceLeDiff, Nat.reduceLT, Int.reduceLT, Int.reduceLE, Int.reduceToNat, Int.reduceAdd, Int.reduceSub, Int.reduceNeg, Int.reduceMul, Int.reduceEq, ← Bool.decide_and, ← Bool.decide_or, ↓tq_n, ↓tq_e, ↓tq_r, ↓bq_n, ↓bq_e, ↓bq_r, ↓rq_n, ↓rq_r, ↓rq_e]
  refine CallG.mk (r_attribution_check n n1 a u1 n2 w u2 _) ?_
  by_cases c1 : chkE n a w = 0
  case neg =>
    simp only [c1, F_attribution_PackingM, g_attribution_PackingM, go_sem, reduceIte, Nat.reduceEqDiff, Nat.reduceAdd, Nat.reduceMul, Nat.reduceSub, reduceCtorEq, Nat.reduceLeDiff, Nat.reduceLT, Int.reduceLT, Int.reduceLE, Int.reduceToNat, Int.reduceAdd, Int.reduceSub, Int.reduceNeg, Int.reduceMul, Int.reduceEq, ← Bool.decide_and, ← Bool.decide_or, ↓tq_n, ↓tq_e, ↓tq_r, ↓bq_n, ↓bq_e, ↓bq_r, ↓rq_n, ↓rq_r, ↓rq_e]
    exact ret_ok (by unfold pkV; rw [if_neg c1])
  have hok := chk_ok.1 c1
  obtain ⟨m, rfl⟩ := ev_nat hok.2.2.1
  have he := hok.2.2.1
  have hal := hok.2.1
  have hwl := hok.2.2.2.1
  have hWl := hok.2.2.2.2
  simp only [c1, F_attribution_PackingM, g_attribution_PackingM, go_sem, reduceIte, Nat.reduceEqDiff, Nat.reduceAdd, Nat.reduceMul, Nat.reduceSub, reduceCtorEq, Nat.reduceLeDiff, Nat.reduceLT, Int.reduceLT, Int.reduceLE, Int.reduceToNat, Int.reduceAdd, Int.reduceSub, Int.reduceNeg, Int.reduceMul, Int.reduceEq, ← Bool.decide_and, ← Bool.decide_or, ↓tq_n, ↓tq_e, ↓tq_r, ↓bq_n, ↓bq_e, ↓bq_r, ↓rq_n, ↓rq_r, ↓rq_e]
  obtain ⟨all, hall⟩ : ∃ all, all = nats (List.range a.length) := ⟨_, rfl⟩
  have hal2 : all.length = a.length := by rw [hall, allI_len]
  have hv : pkV m a w = .tup [gl (lls (pkF m a w a.length all).1) (pkF m a w a.length all).1.length .unk, I (pkF m a w a.length all).2, I 0] := by
    unfold pkV; rw [if_pos c1, Int.toNat_natCast, hall]
  obtain ⟨fin, hfin⟩ : ∃ fin, fin = pkF m a w a.length all := ⟨_, rfl⟩
  rw [← hfin] at hv
  rw [hv]
  refine awp_loop (α := Nat × AV × AH) (fun z => [(0, I m), (1, .sl n1 a.length (prs a) u1), (2, .sl n2 w.length (i64s w) u2), (10, z.2.1), (31, I a.length), (32, I z.1)]) (fun z => z.2.2) (fun z => z.1 ≤ a.length ∧ Gr h' z.2.1 (nats (List.range z.1)) z.2.2) (fun z => a.length - z.1) (0, _, _) ⟨Nat.zero_le _, Gr.new _⟩ (GStep.forget (by repeat' first | exact EnvLe.nil _ | refine EnvLe.cons (AV.le.of_eq rfl) ?_ | refine EnvLe.cons (AV.le.undef _) ?_ | refine EnvLe.cons AV.le.unk ?_) (by repeat' first | exact AH.le.refl _ | assumption | (refine AH.le_put ?_ (by first | assumption | exact (AH.blk_put_ne _ _ (by assumption)).trans (by assumption) | exact AH.none_put (by assumption) | exact AH.none_put (AH.none_put (by assumption)) | (simp only [AH.blk_setTok, AH.tok_put] at *; first | assumption | exact AH.none_put (by assumption)))) | (refine AH.le_setTok ?_ (by first | assumption | exact (AH.blk_put_ne _ _ (by assumption)).trans (by assumption) | exact AH.none_put (by assumption) | exact AH.none_put (AH.none_put (by assumption)) | (simp only [AH.blk_setTok, AH.tok_put] at *; first | assumption | exact AH.none_put (by assumption)))) | (refine AH.le_putM ?_ (by first | assumption | exact (AH.mp_putM_ne _ _ (by assumption)).trans (by assumption) | (simp only [AH.mp_put, AH.mp_setTok] at *; assumption))))) fun z hz => .of_vg hm ?_
  obtain ⟨i, x, H⟩ := z
  obtain ⟨z1, z2⟩ := hz
  simp only at z1 z2
  by_cases h3 : i < a.length
  · have hc : (i : Int) < (a.length : Int) := by omega
    simp only [hc, F_attribution_PackingM, g_attribution_PackingM, go_sem, reduceIte, Nat.reduceEqDiff, Nat.reduceAdd, Nat.reduceMul, Nat.reduceSub, reduceCtorEq, Nat.reduceLeDiff, Nat.reduceLT, Int.reduceLT, Int.reduceLE, Int.reduceToNat, Int.reduceAdd, Int.reduceSub, Int.reduceNeg, Int.reduceMul, Int.reduceEq, ← Bool.decide_and, ← Bool.decide_or, ↓tq_n, ↓tq_e, ↓tq_r, ↓bq_n, ↓bq_e, ↓bq_r, ↓rq_n, ↓rq_r, ↓rq_e]
    refine z2.step (by rw [allI_len]; omega) fun x2 H2 k2 => ?_
    simp only [F_attribution_PackingM, g_attribution_PackingM, go_sem, reduceIte, Nat.reduceEqDiff, Nat.reduceAdd, Nat.reduceMul, Nat.reduceSub, reduceCtorEq, Nat.reduceLeDiff, Nat.reduceLT, Int.reduceLT, Int.reduceLE, Int.reduceToNat, Int.reduceAdd, Int.reduceSub, Int.reduceNeg, Int.reduceMul, Int.reduceEq, ← Bool.decide_and, ← Bool.decide_or, ↓tq_n, ↓tq_e, ↓tq_r, ↓bq_n, ↓bq_e, ↓bq_r, ↓rq_n, ↓rq_r, ↓rq_e]
    refine ⟨by rw [inR64]; omega, (i + 1, x2, H2), ⟨h3, by simp only [nats_succ]; exact k2⟩, by simp only; omega, (GStep.forget (by repeat' first | exact EnvLe.nil _ | refine EnvLe.cons (AV.le.of_eq rfl) ?_ | refine EnvLe.cons (AV.le.undef _) ?_ | refine EnvLe.cons AV.le.unk ?_) (by repeat' first | exact AH.le.refl _ | assumption | (refine AH.le_put ?_ (by first | assumption | exact (AH.blk_put_ne _ _ (by assumption)).trans (by assumption) | exact AH.none_put (by assumption) | exact AH.none_put (AH.none_put (by assumption)) | (simp only [AH.blk_setTok, AH.tok_put] at *; first | assumption | exact AH.none_put (by assumption)))) | (refine AH.le_setTok ?_ (by first | assumption | exact (AH.blk_put_ne _ _ (by assumption)).trans (by assumption) | exact AH.none_put (by assumption) | exact AH.none_put (AH.none_put (by assumption)) | (simp only [AH.blk_setTok, AH.tok_put] at *; first | assumption | exact AH.none_put (by assumption)))) | (refine AH.le_putM ?_ (by first | assumption | exact (AH.mp_putM_ne _ _ (by assumption)).trans (by assumption) | (simp only [AH.mp_put, AH.mp_setTok] at *; assumption)))))⟩
  have h3 : i = a.length := by omega
  subst h3
  rw [← hall] at z2
  have zw := gr_gw z2
  simp only [F_attribution_PackingM, g_attribution_PackingM, go_sem, reduceIte, Nat.reduceEqDiff, Nat.reduceAdd, Nat.reduceMul, Nat.reduceSub, reduceCtorEq, Nat.reduceLeDiff, Nat.reduceLT, Int.reduceLT, Int.reduceLE, Int.reduceToNat, Int.reduceAdd, Int.reduceSub, Int.reduceNeg, Int.reduceMul, Int.reduceEq, ← Bool.decide_and, ← Bool.decide_or, ↓tq_n, ↓tq_e, ↓tq_r, ↓bq_n, ↓bq_e, ↓bq_r, ↓rq_n, ↓rq_r, ↓rq_e]
  refine awp_tok 12 1 (nl := true) (n := 0) (cs := []) rfl fun t ht => ?_
  refine awp_loop (α := Nat × List Int × List (List Int) × Int × AV × AH) (fun y => [(0, I m), (1, .sl n1 a.length (prs a) u1), (2, .sl n2 w.length (i64s w) u2), (10, y.2.2.2.2.1), (12, gl (lls y.2.2.1) y.2.2.1.length (.tok t)), (13, I y.2.2.2.1)]) (fun y => y.2.2.2.2.2.setTok t y.2.2.1.length 1)
    (fun y => Ix a.length y.2.1 ∧ y.2.1.length ≤ y.1 ∧ y.2.2.1.length + y.1 ≤ a.length ∧ 0 ≤ y.2.2.2.1 ∧ y.2.2.2.1 ≤ 100 * y.2.2.1.length ∧ y.2.2.1 ++ (pkF m a w y.1 y.2.1).1 = fin.1 ∧ y.2.2.2.1 + (pkF m a w y.1 y.2.1).2 = fin.2 ∧ Gw h' y.2.2.2.2.1 y.2.1 y.2.2.2.2.2 ∧ y.2.2.2.2.2.tok t = none)
    (fun y => y.1) (a.length, all, [], 0, x, H) ⟨by rw [hall]; exact all_ix _, by simp only; omega, by simp, by simp, by simp, by simp [hfin], by simp [hfin], zw, ht⟩ (GStep.forget (by repeat' first | exact EnvLe.nil _ | refine EnvLe.cons (AV.le.of_eq rfl) ?_ | refine EnvLe.cons (AV.le.undef _) ?_ | refine EnvLe.cons AV.le.unk ?_) (by repeat' first | exact AH.le.refl _ | assumption | (refine AH.le_put ?_ (by first | assumption | exact (AH.blk_put_ne _ _ (by assumption)).trans (by assumption) | exact AH.none_put (by assumption) | exact AH.none_put (AH.none_put (by assumption)) | (simp only [AH.blk_setTok, AH.tok_put] at *; first | assumption | exact AH.none_put (by assumption)))) | (refine AH.le_setTok ?_ (by first | assumption | exact (AH.blk_put_ne _ _ (by assumption)).trans (by assumption) | exact AH.none_put (by assumption) | exact AH.none_put (AH.none_put (by assumption)) | (simp only [AH.blk_setTok, AH.tok_put] at *; first | assumption | exact AH.none_put (by assumption)))) | (refine AH.le_putM ?_ (by first | assumption | exact (AH.mp_putM_ne _ _ (by assumption)).trans (by assumption) | (simp only [AH.mp_put, AH.mp_setTok] at *; assumption))))) fun y hy => .of_vg hm ?_
  clear z1 z2 zw ht x H
  obtain ⟨f, left, O, b, x, H⟩ := y
  obtain ⟨y1, y2, y3, y4, y5, y6, y7, y8, ht⟩ := hy
  simp only at y1 y2 y3 y4 y5 y6 y7 y8 ht
  have hll := ix_len y1
  have hel := sub_ev he y1
  have hle0 := y8.1
  have hrd := y8.rd
  have ht' := tok_of_le hle0 ht
  simp only [rd_len hrd, F_attribution_PackingM, g_attribution_PackingM, go_sem, reduceIte, Nat.reduceEqDiff, Nat.reduceAdd, Nat.reduceMul, Nat.reduceSub, reduceCtorEq, Nat.reduceLeDiff, Nat.reduceLT, Int.reduceLT, Int.reduceLE, Int.reduceToNat, Int.reduceAdd, Int.reduceSub, Int.reduceNeg, Int.reduceMul, Int.reduceEq, ← Bool.decide_and, ← Bool.decide_or, ↓tq_n, ↓tq_e, ↓tq_r, ↓bq_n, ↓bq_e, ↓bq_r, ↓rq_n, ↓rq_r, ↓rq_e]
  refine awp_tok 14 2 (nl := true) (n := 0) (cs := []) rfl fun t1 ht1 => ?_
  obtain ⟨k1, k2⟩ := tok_fresh ht1
  have k2' := tok_of_le hle0 k2
  refine awp_loop (fun i : Nat => [(0, I m), (1, .sl n1 a.length (prs a) u1), (2, .sl n2 w.length (i64s w) u2), (10, x), (12, gl (lls O) O.length (.tok t)), (13, I b), (14, gl (prs (sub a (left.take i))) i (.tok t1)), (40, x), (41, I left.length), (42, I i)]) (fun i => (H.setTok t O.length 1).setTok t1 i 2) (fun i => i ≤ left.length) (fun i => left.length - i) 0 (Nat.zero_le _) (GStep.forget (by repeat' first | exact EnvLe.nil _ | refine EnvLe.cons (AV.le.of_eq rfl) ?_ | refine EnvLe.cons (AV.le.undef _) ?_ | refine EnvLe.cons AV.le.unk ?_) (by repeat' first | exact AH.le.refl _ | assumption | (refine AH.le_put ?_ (by first | assumption | exact (AH.blk_put_ne _ _ (by assumption)).trans (by assumption) | exact AH.none_put (by assumption) | exact AH.none_put (AH.none_put (by assumption)) | (simp only [AH.blk_setTok, AH.tok_put] at *; first | assumption | exact AH.none_put (by assumption)))) | (refine AH.le_setTok ?_ (by first | assumption | exact (AH.blk_put_ne _ _ (by assumption)).trans (by assumption) | exact AH.none_put (by assumption) | exact AH.none_put (AH.none_put (by assumption)) | (simp only [AH.blk_setTok, AH.tok_put] at *; first | assumption | exact AH.none_put (by assumption)))) | (refine AH.le_putM ?_ (by first | assumption | exact (AH.mp_putM_ne _ _ (by assumption)).trans (by assumption) | (simp only [AH.mp_put, AH.mp_setTok] at *; assumption))))) fun i hi => .of_vg hm ?_
  by_cases h3 : i < left.length
  · have hc : (i : Int) < (left.length : Int) := by omega
    obtain ⟨i1, i2, i3⟩ := ix_at y1 h3
    have e1 := sub_take a left h3
    have l1 : (prs (sub a (left.take i))).length = i * 2 := by rw [prs_len, sub_tl a left i hi]
    have hr1 : Rd ((H.setTok t O.length 1).setTok t1 i 2) x left := rd_blk hrd rfl
    have hi0 : (0 : Int) ≤ (i : Int) := by omega
    simp only [hc, hi0, rd_ix hr1, rd_ld hr1 h3, i1, i2, prs_drop i3, l1, F_attribution_PackingM, g_attribution_PackingM, go_sem, reduceIte, Nat.reduceEqDiff, Nat.reduceAdd, Nat.reduceMul, Nat.reduceSub, reduceCtorEq, Nat.reduceLeDiff, Nat.reduceLT, Int.reduceLT, Int.reduceLE, Int.reduceToNat, Int.reduceAdd, Int.reduceSub, Int.reduceNeg, Int.reduceMul, Int.reduceEq, ← Bool.decide_and, ← Bool.decide_or, ↓tq_n, ↓tq_e, ↓tq_r, ↓bq_n, ↓bq_e, ↓bq_r, ↓rq_n, ↓rq_r, ↓rq_e]
    refine ⟨by omega, by omega, by rw [inR64]; omega, i + 1, by omega, by omega, ?_⟩
    rw [e1, prs_append, prs_one]
    exact (GStep.forget (by repeat' first | exact EnvLe.nil _ | refine EnvLe.cons (AV.le.of_eq rfl) ?_ | refine EnvLe.cons (AV.le.undef _) ?_ | refine EnvLe.cons AV.le.unk ?_) (by repeat' first | exact AH.le.refl _ | assumption | (refine AH.le_put ?_ (by first | assumption | exact (AH.blk_put_ne _ _ (by assumption)).trans (by assumption) | exact AH.none_put (by assumption) | exact AH.none_put (AH.none_put (by assumption)) | (simp only [AH.blk_setTok, AH.tok_put] at *; first | assumption | exact AH.none_put (by assumption)))) | (refine AH.le_setTok ?_ (by first | assumption | exact (AH.blk_put_ne _ _ (by assumption)).trans (by assumption) | exact AH.none_put (by assumption) | exact AH.none_put (AH.none_put (by assumption)) | (simp only [AH.blk_setTok, AH.tok_put] at *; first | assumption | exact AH.none_put (by assumption)))) | (refine AH.le_putM ?_ (by first | assumption | exact (AH.mp_putM_ne _ _ (by assumption)).trans (by assumption) | (simp only [AH.mp_put, AH.mp_setTok] at *; assumption)))))
  have h3 : i = left.length := by omega
  subst h3
  have g1 : gl (prs (sub a (left.take left.length))) left.length (.tok t1) = .sl (decide (left.length = 0)) (sub a left).length (prs (sub a left)) (.tok t1) := by rw [List.take_length, sub_len]; rfl
  simp only [F_attribution_PackingM, g_attribution_PackingM, go_sem, reduceIte, Nat.reduceEqDiff, Nat.reduceAdd, Nat.reduceMul, Nat.reduceSub, reduceCtorEq, Nat.reduceLeDiff, Nat.reduceLT, Int.reduceLT, Int.reduceLE, Int.reduceToNat, Int.reduceAdd, Int.reduceSub, Int.reduceNeg, Int.reduceMul, Int.reduceEq, ← Bool.decide_and, ← Bool.decide_or, ↓tq_n, ↓tq_e, ↓tq_r, ↓bq_n, ↓bq_e, ↓bq_r, ↓rq_n, ↓rq_r, ↓rq_e]
  rw [g1]
  refine CallG.mk (r_contradiction_Smallest m _ (sub a left) _ _) ?_
  cases hs : smF (sub a left) m with
  | none =>
    rw [smV_none hel hs]
    rw [pkF_none hs] at y6 y7
    simp only [List.append_nil, Int.add_zero] at y6 y7
    simp only [F_attribution_PackingM, g_attribution_PackingM, go_sem, reduceIte, Nat.reduceEqDiff, Nat.reduceAdd, Nat.reduceMul, Nat.reduceSub, reduceCtorEq, Nat.reduceLeDiff, Nat.reduceLT, Int.reduceLT, Int.reduceLE, Int.reduceToNat, Int.reduceAdd, Int.reduceSub, Int.reduceNeg, Int.reduceMul, Int.reduceEq, ← Bool.decide_and, ← Bool.decide_or, ↓tq_n, ↓tq_e, ↓tq_r, ↓bq_n, ↓bq_e, ↓bq_r, ↓rq_n, ↓rq_r, ↓rq_e]
    rw [← y6, ← y7]
    refine ret_le (AH.le_setTok (AH.le_setTok hle0 ht') k2') ?_
    exact AV.le.tupC (CLe.cons AV.le.glU (CLe.cons (AV.le.refl _) (CLe.cons (AV.le.refl _) CLe.nil)))
  | some s =>
    rw [smV_some hel hs]
    obtain ⟨p1, p2, p3⟩ := pk_ix he y1 hs
    obtain ⟨f, rfl⟩ : ∃ g, f = g + 1 := ⟨f - 1, by
      have := ix_len p1
      omega⟩
    rw [pkF_some hs] at y6 y7
    have p4 := rmv_lt he y1 hs
    have p5 := pick_len he y1 hs (left := left)
    have p6 := pick_ix he y1 hs
    obtain ⟨T, hT⟩ : ∃ T, T = pick left s := ⟨_, rfl⟩
    rw [← hT] at y6 y7 p4 p5 p6
    have hTl := ix_len p6
    simp only [F_attribution_PackingM, g_attribution_PackingM, go_sem, reduceIte, Nat.reduceEqDiff, Nat.reduceAdd, Nat.reduceMul, Nat.reduceSub, reduceCtorEq, Nat.reduceLeDiff, Nat.reduceLT, Int.reduceLT, Int.reduceLE, Int.reduceToNat, Int.reduceAdd, Int.reduceSub, Int.reduceNeg, Int.reduceMul, Int.reduceEq, ← Bool.decide_and, ← Bool.decide_or, ↓tq_n, ↓tq_e, ↓tq_r, ↓bq_n, ↓bq_e, ↓bq_r, ↓rq_n, ↓rq_r, ↓rq_e]
    refine AllocG.mk fun bT hbT => ?_
    have hbT : H.blk bT = none := hbT
    simp only [F_attribution_PackingM, g_attribution_PackingM, go_sem, reduceIte, Nat.reduceEqDiff, Nat.reduceAdd, Nat.reduceMul, Nat.reduceSub, reduceCtorEq, Nat.reduceLeDiff, Nat.reduceLT, Int.reduceLT, Int.reduceLE, Int.reduceToNat, Int.reduceAdd, Int.reduceSub, Int.reduceNeg, Int.reduceMul, Int.reduceEq, ← Bool.decide_and, ← Bool.decide_or, ↓tq_n, ↓tq_e, ↓tq_r, ↓bq_n, ↓bq_e, ↓bq_r, ↓rq_n, ↓rq_r, ↓rq_e]
    refine awp_tokB bT 0 1 (nl := true) (n := 0) (cs := []) (AH.blk_put _ _ _) rfl fun t2 ht2 => ?_
    obtain ⟨k3, k4⟩ := tok_fresh (show ((H.setTok t O.length 1).setTok t1 left.length 2).tok t2 = none from ht2)
    obtain ⟨k5, k6⟩ := tok_fresh k4
    refine awp_loop (fun i : Nat => [(0, I m), (1, .sl n1 a.length (prs a) u1), (2, .sl n2 w.length (i64s w) u2), (10, x), (12, gl (lls O) O.length (.tok t)), (13, I b), (19, .ptr bT 0), (20, I (lowK w T i)), (64, .sl false s.length (i64s s) .unk), (65, I s.length), (66, I i)]) (fun i => ((H.setTok t O.length 1).setTok t2 i 1).put bT [gl (i64s (T.take i)) i (.tok t2)]) (fun i => i ≤ s.length) (fun i => s.length - i) 0 (Nat.zero_le _) (by simp only [AH.put_put, AH.put_setTok, List.set_cons_zero]; exact GStep.forget (by repeat' first | exact EnvLe.nil _ | refine EnvLe.cons (AV.le.of_eq rfl) ?_ | refine EnvLe.cons (AV.le.undef _) ?_ | refine EnvLe.cons AV.le.unk ?_) (AH.le_put2 (AH.le_setTok2 (AH.le_setTok (AH.le.refl _) ht1)))) fun i hi => .of_vg hm ?_
    by_cases h3 : i < s.length
    · have hc : (i : Int) < (s.length : Int) := by omega
      have hp := pick_get he y1 hs h3
      rw [← hT] at hp
      obtain ⟨i1, i2⟩ := (ix_pw.1 p1).1 _ (mem_getD (d := 0) h3)
      have i3 : (s.getD i 0).toNat < left.length := by omega
      obtain ⟨j1, j2, j3⟩ := ix_at y1 i3
      have e1 : T.take (i + 1) = T.take i ++ [left.getD (s.getD i 0).toNat 0] := by rw [take_getD 0 (by omega), hp]
      have e2 : lowK w T (i + 1) = min (lowK w T i) (w.getD (left.getD (s.getD i 0).toNat 0).toNat 0) := by simp only [lowK, hp]
      have l1 : (i64s (T.take i)).length = i := by rw [i64s_len, List.length_take]; omega
      have j4 : left.getD (s.getD i 0).toNat 0 < (w.length : Int) := by omega
      have j5 : (left.getD (s.getD i 0).toNat 0).toNat < w.length := by omega
      have hr1 : Rd (((H.setTok t O.length 1).setTok t2 i 1).put bT [gl (i64s (T.take i)) i (.tok t2)]) x left := (rd_blk (g := (H.setTok t O.length 1).setTok t2 i 1) hrd rfl).put hbT _
      have hr2 : Rd (((H.setTok t O.length 1).setTok t2 (i + 1) 1).put bT [gl (i64s (T.take i) ++ [I (left.getD (s.getD i 0).toNat 0)]) (i + 1) (.tok t2)]) x left := (rd_blk (g := (H.setTok t O.length 1).setTok t2 (i + 1) 1) hrd rfl).put hbT _
      simp only [hc, i64s_drop h3, i1, i2, rd_ix hr1, rd_ld hr1 i3, rd_ix hr2, rd_ld hr2 i3, j1, j2, j4, i64s_drop j5, l1, F_attribution_PackingM, g_attribution_PackingM, go_sem, reduceIte, Nat.reduceEqDiff, Nat.reduceAdd, Nat.reduceMul, Nat.reduceSub, reduceCtorEq, Nat.reduceLeDiff, Nat.reduceLT, Int.reduceLT, Int.reduceLE, Int.reduceToNat, Int.reduceAdd, Int.reduceSub, Int.reduceNeg, Int.reduceMul, Int.reduceEq, ← Bool.decide_and, ← Bool.decide_or, ↓tq_n, ↓tq_e, ↓tq_r, ↓bq_n, ↓bq_e, ↓bq_r, ↓rq_n, ↓rq_r, ↓rq_e]
      refine ⟨by omega, by omega, by rw [inR64]; omega, i + 1, by omega, by omega, ?_⟩
      rw [e1, e2, i64s_append]
      exact (GStep.forget (by repeat' first | exact EnvLe.nil _ | refine EnvLe.cons (AV.le.of_eq rfl) ?_ | refine EnvLe.cons (AV.le.undef _) ?_ | refine EnvLe.cons AV.le.unk ?_) (by repeat' first | exact AH.le.refl _ | assumption | (refine AH.le_put ?_ (by first | assumption | exact (AH.blk_put_ne _ _ (by assumption)).trans (by assumption) | exact AH.none_put (by assumption) | exact AH.none_put (AH.none_put (by assumption)) | (simp only [AH.blk_setTok, AH.tok_put] at *; first | assumption | exact AH.none_put (by assumption)))) | (refine AH.le_setTok ?_ (by first | assumption | exact (AH.blk_put_ne _ _ (by assumption)).trans (by assumption) | exact AH.none_put (by assumption) | exact AH.none_put (AH.none_put (by assumption)) | (simp only [AH.blk_setTok, AH.tok_put] at *; first | assumption | exact AH.none_put (by assumption)))) | (refine AH.le_putM ?_ (by first | assumption | exact (AH.mp_putM_ne _ _ (by assumption)).trans (by assumption) | (simp only [AH.mp_put, AH.mp_setTok] at *; assumption)))))
    have h3 : i = s.length := by omega
    subst h3
    have g2 : gl (i64s (T.take s.length)) s.length (.tok t2) = .sl false T.length (i64s T) (.tok t2) := by rw [← p5, List.take_length, gl_pos (by omega)]
    rw [g2]
    have hlo := lowK_bd hWl T s.length
    have l2 : (lls O).length = O.length := lls_len O
    simp only [l2, tok_ne k5.symm, F_attribution_PackingM, g_attribution_PackingM, go_sem, reduceIte, Nat.reduceEqDiff, Nat.reduceAdd, Nat.reduceMul, Nat.reduceSub, reduceCtorEq, Nat.reduceLeDiff, Nat.reduceLT, Int.reduceLT, Int.reduceLE, Int.reduceToNat, Int.reduceAdd, Int.reduceSub, Int.reduceNeg, Int.reduceMul, Int.reduceEq, ← Bool.decide_and, ← Bool.decide_or, ↓tq_n, ↓tq_e, ↓tq_r, ↓bq_n, ↓bq_e, ↓bq_r, ↓rq_n, ↓rq_r, ↓rq_e]
    obtain ⟨_, ⟨hl0, _⟩ | ⟨b0, q0, more, rfl, hq0, hb0, hn0⟩⟩ := y8
    · rw [hl0] at p4
      exact absurd p4 (Nat.not_lt_zero _)
    have hne : b0 ≠ bT := fun hh => by rw [hh, hbT] at hb0; cases hb0
    refine ⟨by omega, by omega, by rw [inR64]; omega, CallS.mk (s_DeleteFunc left T 48 [.ptr bT 0] b0 q0 more _ ((AH.blk_put_ne _ _ hne).trans hb0) hq0 (by omega) fun v hv cs => r_attribution_Packing_1 v bT T false (.tok t2) _ ((AH.blk_put_ne _ _ hne.symm).trans (AH.blk_put _ _ _))) fun r g hrg => ?_⟩
    obtain ⟨more', rfl, rfl⟩ := hrg
    simp only [F_attribution_PackingM, g_attribution_PackingM, go_sem, reduceIte, Nat.reduceEqDiff, Nat.reduceAdd, Nat.reduceMul, Nat.reduceSub, reduceCtorEq, Nat.reduceLeDiff, Nat.reduceLT, Int.reduceLT, Int.reduceLE, Int.reduceToNat, Int.reduceAdd, Int.reduceSub, Int.reduceNeg, Int.reduceMul, Int.reduceEq, ← Bool.decide_and, ← Bool.decide_or, ↓tq_n, ↓tq_e, ↓tq_r, ↓bq_n, ↓bq_e, ↓bq_r, ↓rq_n, ↓rq_r, ↓rq_e]
    rw [p5] at y7
    simp only at y6 y7
    have e9 : gl (lls (O ++ [T])) (O.length + 1) (.tok t) = gl (lls (O ++ [T])) (O ++ [T]).length (.tok t) := by rw [List.length_append]; rfl
    have hre := rmv_ix y1 T
    refine ⟨(f, rmv left T, O ++ [T], b + lowK w T s.length, .msl b0 0 (rmv left T).length (some q0), H.put b0 (i64s (rmv left T) ++ more')), ⟨hre, by simp only; omega, by simp only [List.length_append, List.length_singleton]; omega, by simp only; omega, by simp only [List.length_append, List.length_singleton]; omega, by simp only [List.append_assoc, List.singleton_append]; exact y6, by simp only; omega, ⟨AH.le_put hle0 hn0, .inr ⟨b0, q0, more', rfl, Nat.le_trans (Nat.le_of_lt p4) hq0, AH.blk_put _ _ _, hn0⟩⟩, ht⟩, Nat.lt_succ_self f, ?_⟩
    simp only [← e9, List.length_append, List.length_singleton, AH.put_setTok]
    exact GStep.forget (by repeat' first | exact EnvLe.nil _ | refine EnvLe.cons (AV.le.of_eq rfl) ?_ | refine EnvLe.cons (AV.le.undef _) ?_ | refine EnvLe.cons AV.le.unk ?_ | refine EnvLe.cons lls_le ?_) (AH.le_put2 (AH.le_put (AH.le_setTok2 (AH.le_setTok (AH.le_setTok (AH.le.refl _) ht) k6)) hbT))
end Go.Proofs.Ytemfmnjhhdeedaa
