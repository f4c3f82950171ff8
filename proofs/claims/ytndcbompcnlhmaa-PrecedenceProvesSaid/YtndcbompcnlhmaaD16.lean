/- Calls of functions of this seat's program: the reference's first of the shortest chains. No condition. -/
import Derived.Test.YtndcbompcnlhmaaD15
import Derived.Test.YtndcbompcnlhmaaP4
namespace Go.Proofs.Ytndcbompcnlhmaa
open Go Go.Abs
set_option linter.unusedSimpArgs false
set_option linter.unusedVariables false
set_option maxRecDepth 20000

/-- The table while it is filled. -/
def zF (n k : Nat) : List Int := List.replicate k (-1) ++ List.replicate (n - k) 0
theorem zF_len {n k : Nat} (h : k ≤ n) : (zF n k).length = n := by simp [zF]; omega
theorem zF_set {n k : Nat} (h : k < n) : (zF n k).set k (-1) = zF n (k + 1) := by
  unfold zF
  rw [List.set_append_right _ _ (by simp), List.length_replicate, Nat.sub_self]
  obtain ⟨m, hm⟩ : ∃ m, n - k = m + 1 := ⟨n - k - 1, by omega⟩
  rw [hm, show n - (k + 1) = m by omega, List.replicate_succ, List.set_cons_zero, List.replicate_succ', List.append_assoc]
  rfl
theorem zF_all (n : Nat) : zF n n = List.replicate n (-1) := by simp [zF]
theorem zF_zero (n : Nat) : i64s (zF n 0) = List.replicate n (I 0) := by simp [zF, i64s]
theorem fwK_st {n : Nat} {P : List T3} {b : Int} (hP : Pc n P) (hb : 0 ≤ b ∧ b < n) : ∀ (k j : Nat), j ≤ P.length → (fwK P k (fwR P ((List.replicate n (-1)).set b.toNat 0) k) j).length = n := by
  have h1 : ∀ (f : List Int) (k j : Nat), (fwK P k f j).length = f.length := by
    intro f k j
    induction j with
    | zero => rfl
    | succ j ih => unfold fwK; split <;> simp [ih]
  have h2 : ∀ (f : List Int) (k : Nat), (fwR P f k).length = f.length := by
    intro f k
    induction k with
    | zero => rfl
    | succ k ih => unfold fwR; rw [h1, ih]
  intro k j _
  rw [h1, h2]; simp
/-- Which piece is the best so far. -/
def bsI (l : List Spm) (f : List Int) (P : List T3) (at_ : Int) (j : Nat) (m : Int) : Prop := (m = -1 ∧ bst l f P at_ j = none) ∨ ∃ r : Nat, m = r ∧ r < P.length ∧ bst l f P at_ j = some (P.getD r d3)
theorem id_iff {l : List Spm} (h : ckE l = 0) {a b : Nat} (ha : a < l.length) (hb : b < l.length) : (l.getD a dS).id = (l.getD b dS).id ↔ a = b := ⟨id_inj h ha hb, fun e => by rw [e]⟩
set_option maxHeartbeats 16000000 in
theorem r_ref_Why (n1 : Bool) (l : List Spm) (u1 : Tail) (n2 : Bool) (c : List (Int × Int)) (u2 : Tail) (a b : Int) (h : AH) : RCall Try.prog n_ref_Why [.sl n1 l.length (sms l) u1, .sl n2 c.length (prs c) u2, I a, I b] h (whV l c a b) := by
  refine RCall.of hm cF_ref_Why (by simp [g_ref_Why]) fun hw h' hl => ?_
  simp only [F_ref_Why, g_ref_Why, go_sem, reduceIte, Nat.reduceEqDiff, Nat.reduceAdd, Nat.reduceMul, Nat.reduceSub, reduceCtorEq, Nat.reduceLeDiff, Nat.reduceLT, Int.reduceLT, Int.reduceLE, Int.reduceToNat, Int.reduceAdd, Int.reduceSub, Int.reduceNeg, Int.reduceMul, Int.reduceEq, ← Bool.decide_and, ← Bool.decide_or, ↓tq_n, ↓tq_e, ↓tq_r, ↓bq_n, ↓bq_e, ↓bq_r, ↓rq_n, ↓rq_r, ↓rq_e]
  refine CallG.mk (r_ref_check n1 l u1 n2 c u2 _) ?_
  by_cases c1 : gaE l c = 0
  case neg =>
    simp only [c1, F_ref_Why, g_ref_Why, go_sem, reduceIte, Nat.reduceEqDiff, Nat.reduceAdd, Nat.reduceMul, Nat.reduceSub, reduceCtorEq, Nat.reduceLeDiff, Nat.reduceLT, Int.reduceLT, Int.reduceLE, Int.reduceToNat, Int.reduceAdd, Int.reduceSub, Int.reduceNeg, Int.reduceMul, Int.reduceEq, ← Bool.decide_and, ← Bool.decide_or, ↓tq_n, ↓tq_e, ↓tq_r, ↓bq_n, ↓bq_e, ↓bq_r, ↓rq_n, ↓rq_r, ↓rq_e]
    exact ret_ok (by unfold whV; rw [if_neg c1])
  obtain ⟨g1, g2, g3, g4, g5, _⟩ := ga_ok c1
  have hRP := r_ref_Proofs n1 l u1 n2 c u2 c1
  obtain ⟨P, hPe⟩ : ∃ P, P = pcs l c := ⟨_, rfl⟩
  have hwv : whV l c a b = (if plc l a < 0 ∨ plc l b < 0 then .tup [.sl true 0 [] .full, I 7]
    else match wyF l (far l.length P (plc l b)) P (plc l b) (l.length + 2) (plc l a) with
      | none => .tup [.sl true 0 [] .full, I 7]
      | some o => .tup [gl (trs o) o.length .unk, I 0]) := by unfold whV; rw [if_pos c1, hPe]; rfl
  rw [← hPe] at g3 g4 g5 hRP
  simp only [c1, F_ref_Why, g_ref_Why, go_sem, reduceIte, Nat.reduceEqDiff, Nat.reduceAdd, Nat.reduceMul, Nat.reduceSub, reduceCtorEq, Nat.reduceLeDiff, Nat.reduceLT, Int.reduceLT, Int.reduceLE, Int.reduceToNat, Int.reduceAdd, Int.reduceSub, Int.reduceNeg, Int.reduceMul, Int.reduceEq, ← Bool.decide_and, ← Bool.decide_or, ↓tq_n, ↓tq_e, ↓tq_r, ↓bq_n, ↓bq_e, ↓bq_r, ↓rq_n, ↓rq_r, ↓rq_e]
  refine CallG.mk (r_ref_place n1 l u1 a _) ?_
  by_cases c2 : plc l a < 0
  · simp only [c2, F_ref_Why, g_ref_Why, go_sem, reduceIte, Nat.reduceEqDiff, Nat.reduceAdd, Nat.reduceMul, Nat.reduceSub, reduceCtorEq, Nat.reduceLeDiff, Nat.reduceLT, Int.reduceLT, Int.reduceLE, Int.reduceToNat, Int.reduceAdd, Int.reduceSub, Int.reduceNeg, Int.reduceMul, Int.reduceEq, ← Bool.decide_and, ← Bool.decide_or, ↓tq_n, ↓tq_e, ↓tq_r, ↓bq_n, ↓bq_e, ↓bq_r, ↓rq_n, ↓rq_r, ↓rq_e]
    exact ret_ok (by rw [hwv, if_pos (.inl c2)])
  simp only [c2, F_ref_Why, g_ref_Why, go_sem, reduceIte, Nat.reduceEqDiff, Nat.reduceAdd, Nat.reduceMul, Nat.reduceSub, reduceCtorEq, Nat.reduceLeDiff, Nat.reduceLT, Int.reduceLT, Int.reduceLE, Int.reduceToNat, Int.reduceAdd, Int.reduceSub, Int.reduceNeg, Int.reduceMul, Int.reduceEq, ← Bool.decide_and, ← Bool.decide_or, ↓tq_n, ↓tq_e, ↓tq_r, ↓bq_n, ↓bq_e, ↓bq_r, ↓rq_n, ↓rq_r, ↓rq_e]
  refine CallG.mk (r_ref_place n1 l u1 b _) ?_
  by_cases c3 : plc l b < 0
  · simp only [c3, F_ref_Why, g_ref_Why, go_sem, reduceIte, Nat.reduceEqDiff, Nat.reduceAdd, Nat.reduceMul, Nat.reduceSub, reduceCtorEq, Nat.reduceLeDiff, Nat.reduceLT, Int.reduceLT, Int.reduceLE, Int.reduceToNat, Int.reduceAdd, Int.reduceSub, Int.reduceNeg, Int.reduceMul, Int.reduceEq, ← Bool.decide_and, ← Bool.decide_or, ↓tq_n, ↓tq_e, ↓tq_r, ↓bq_n, ↓bq_e, ↓bq_r, ↓rq_n, ↓rq_r, ↓rq_e]
    exact ret_ok (by rw [hwv, if_pos (.inr c3)])
  rw [if_neg (by omega)] at hwv
  obtain ⟨ia, hia, hal, hai⟩ := plc_nat (show 0 ≤ plc l a by omega)
  obtain ⟨ib, hib, hbl, hbi⟩ := plc_nat (show 0 ≤ plc l b by omega)
  rw [hia, hib] at hwv
  simp only [c3, F_ref_Why, g_ref_Why, go_sem, reduceIte, Nat.reduceEqDiff, Nat.reduceAdd, Nat.reduceMul, Nat.reduceSub, reduceCtorEq, Nat.reduceLeDiff, Nat.reduceLT, Int.reduceLT, Int.reduceLE, Int.reduceToNat, Int.reduceAdd, Int.reduceSub, Int.reduceNeg, Int.reduceMul, Int.reduceEq, ← Bool.decide_and, ← Bool.decide_or, ↓tq_n, ↓tq_e, ↓tq_r, ↓bq_n, ↓bq_e, ↓bq_r, ↓rq_n, ↓rq_r, ↓rq_e]
  refine CallG.mk (hRP _) ?_
  obtain ⟨R, hR⟩ : ∃ R, R = P.map (idT l) := ⟨_, rfl⟩
  have hRl : R.length = P.length := by rw [hR, List.length_map]
  have hRg : ∀ j, j < P.length → R.getD j (0, 0, 0) = idT l (P.getD j d3) := fun j hj => by rw [hR]; simp [List.getD, hj]
  rw [← hR]
  simp only [F_ref_Why, g_ref_Why, go_sem, reduceIte, Nat.reduceEqDiff, Nat.reduceAdd, Nat.reduceMul, Nat.reduceSub, reduceCtorEq, Nat.reduceLeDiff, Nat.reduceLT, Int.reduceLT, Int.reduceLE, Int.reduceToNat, Int.reduceAdd, Int.reduceSub, Int.reduceNeg, Int.reduceMul, Int.reduceEq, ← Bool.decide_and, ← Bool.decide_or, ↓tq_n, ↓tq_e, ↓tq_r, ↓bq_n, ↓bq_e, ↓bq_r, ↓rq_n, ↓rq_r, ↓rq_e]
  refine MakeG.mk (by omega) (Int.le_refl _) (by omega) (by omega) fun b12 hb12 => ?_
  rw [flat_rep, ← zF_zero]
  simp only [F_ref_Why, g_ref_Why, go_sem, reduceIte, Nat.reduceEqDiff, Nat.reduceAdd, Nat.reduceMul, Nat.reduceSub, reduceCtorEq, Nat.reduceLeDiff, Nat.reduceLT, Int.reduceLT, Int.reduceLE, Int.reduceToNat, Int.reduceAdd, Int.reduceSub, Int.reduceNeg, Int.reduceMul, Int.reduceEq, ← Bool.decide_and, ← Bool.decide_or, ↓tq_n, ↓tq_e, ↓tq_r, ↓bq_n, ↓bq_e, ↓bq_r, ↓rq_n, ↓rq_r, ↓rq_e]
  refine awp_loop (fun k : Nat => [(0, .sl n1 l.length (sms l) u1), (1, .sl n2 c.length (prs c) u2), (2, I a), (3, I b), (11, gl (trs R) R.length .unk), (12, .msl b12 0 l.length (some l.length)), (13, I k)]) (fun k => h'.put b12 (i64s (zF l.length k))) (fun k => k ≤ l.length) (fun k => l.length - k) 0 (Nat.zero_le _) (GStep.forget (by repeat' first | exact EnvLe.nil _ | refine EnvLe.cons (AV.le.of_eq rfl) ?_ | refine EnvLe.cons (AV.le.undef _) ?_ | refine EnvLe.cons AV.le.unk ?_) (by repeat' first | exact AH.le.refl _ | assumption | (refine AH.le_put ?_ (by first | assumption | exact (AH.blk_put_ne _ _ (by assumption)).trans (by assumption) | exact AH.none_put (by assumption) | exact AH.none_put (AH.none_put (by assumption)) | (simp only [AH.blk_setTok, AH.tok_put] at *; first | assumption | exact AH.none_put (by assumption)))) | (refine AH.le_setTok ?_ (by first | assumption | exact (AH.blk_put_ne _ _ (by assumption)).trans (by assumption) | exact AH.none_put (by assumption) | exact AH.none_put (AH.none_put (by assumption)) | (simp only [AH.blk_setTok, AH.tok_put] at *; first | assumption | exact AH.none_put (by assumption)))) | (refine AH.le_putM ?_ (by first | assumption | exact (AH.mp_putM_ne _ _ (by assumption)).trans (by assumption) | (simp only [AH.mp_put, AH.mp_setTok] at *; assumption))))) fun k hk => .of_vg hm ?_
  by_cases h3 : k < l.length
  · have hc3 : (k : Int) < (l.length : Int) := by omega
    have hzl := zF_len hk
    have hcl : k + 1 ≤ (i64s (zF l.length k)).length := by rw [i64s_len, hzl]; omega
    have hk0 : (0 : Int) ≤ (k : Int) := by omega
    simp only [hc3, hcl, hk0, F_ref_Why, g_ref_Why, go_sem, reduceIte, Nat.reduceEqDiff, Nat.reduceAdd, Nat.reduceMul, Nat.reduceSub, reduceCtorEq, Nat.reduceLeDiff, Nat.reduceLT, Int.reduceLT, Int.reduceLE, Int.reduceToNat, Int.reduceAdd, Int.reduceSub, Int.reduceNeg, Int.reduceMul, Int.reduceEq, ← Bool.decide_and, ← Bool.decide_or, ↓tq_n, ↓tq_e, ↓tq_r, ↓bq_n, ↓bq_e, ↓bq_r, ↓rq_n, ↓rq_r, ↓rq_e]
    refine ⟨by rw [inR64]; omega, k + 1, by omega, by omega, ?_⟩
    rw [← zF_set h3, i64s_set]
    exact (GStep.forget (by repeat' first | exact EnvLe.nil _ | refine EnvLe.cons (AV.le.of_eq rfl) ?_ | refine EnvLe.cons (AV.le.undef _) ?_ | refine EnvLe.cons AV.le.unk ?_) (by repeat' first | exact AH.le.refl _ | assumption | (refine AH.le_put ?_ (by first | assumption | exact (AH.blk_put_ne _ _ (by assumption)).trans (by assumption) | exact AH.none_put (by assumption) | exact AH.none_put (AH.none_put (by assumption)) | (simp only [AH.blk_setTok, AH.tok_put] at *; first | assumption | exact AH.none_put (by assumption)))) | (refine AH.le_setTok ?_ (by first | assumption | exact (AH.blk_put_ne _ _ (by assumption)).trans (by assumption) | exact AH.none_put (by assumption) | exact AH.none_put (AH.none_put (by assumption)) | (simp only [AH.blk_setTok, AH.tok_put] at *; first | assumption | exact AH.none_put (by assumption)))) | (refine AH.le_putM ?_ (by first | assumption | exact (AH.mp_putM_ne _ _ (by assumption)).trans (by assumption) | (simp only [AH.mp_put, AH.mp_setTok] at *; assumption)))))
  have h3 : k = l.length := by omega
  subst h3
  rw [zF_all]
  have hcl : ib + 1 ≤ (i64s (List.replicate l.length (-1))).length := by rw [i64s_len, List.length_replicate]; omega
  have hb0 : (0 : Int) ≤ (ib : Int) := by omega
  have hbc : (ib : Int) < (l.length : Int) := by omega
  simp only [F_ref_Why, g_ref_Why, go_sem, reduceIte, Nat.reduceEqDiff, Nat.reduceAdd, Nat.reduceMul, Nat.reduceSub, reduceCtorEq, Nat.reduceLeDiff, Nat.reduceLT, Int.reduceLT, Int.reduceLE, Int.reduceToNat, Int.reduceAdd, Int.reduceSub, Int.reduceNeg, Int.reduceMul, Int.reduceEq, ← Bool.decide_and, ← Bool.decide_or, ↓tq_n, ↓tq_e, ↓tq_r, ↓bq_n, ↓bq_e, ↓bq_r, ↓rq_n, ↓rq_r, ↓rq_e]
  refine CallG.mk (r_ref_place n1 l u1 b _) ?_
  rw [hib]
  simp only [hcl, hb0, hbc, F_ref_Why, g_ref_Why, go_sem, reduceIte, Nat.reduceEqDiff, Nat.reduceAdd, Nat.reduceMul, Nat.reduceSub, reduceCtorEq, Nat.reduceLeDiff, Nat.reduceLT, Int.reduceLT, Int.reduceLE, Int.reduceToNat, Int.reduceAdd, Int.reduceSub, Int.reduceNeg, Int.reduceMul, Int.reduceEq, ← Bool.decide_and, ← Bool.decide_or, ↓tq_n, ↓tq_e, ↓tq_r, ↓bq_n, ↓bq_e, ↓bq_r, ↓rq_n, ↓rq_r, ↓rq_e]
  have hbr : 0 ≤ (ib : Int) ∧ (ib : Int) < l.length := ⟨hb0, hbc⟩
  have hst := fwK_st g3 hbr
  have hfar : far l.length P (ib : Int) = fwR P ((List.replicate l.length (-1)).set ib 0) l.length := by unfold far; rw [Int.toNat_natCast]
  rw [Int.toNat_natCast] at hst
  rw [← i64s_set]
  obtain ⟨F0, hF0⟩ : ∃ F0, F0 = (List.replicate l.length (-1 : Int)).set ib 0 := ⟨_, rfl⟩
  rw [← hF0] at hst hfar ⊢
  refine awp_loop (fun k : Nat => [(0, .sl n1 l.length (sms l) u1), (2, I a), (3, I b), (11, gl (trs R) R.length .unk), (12, .msl b12 0 l.length (some l.length)), (14, I k)]) (fun k => h'.put b12 (i64s (fwR P F0 k))) (fun k => k ≤ l.length) (fun k => l.length - k) 0 (Nat.zero_le _) (GStep.forget (by repeat' first | exact EnvLe.nil _ | refine EnvLe.cons (AV.le.of_eq rfl) ?_ | refine EnvLe.cons (AV.le.undef _) ?_ | refine EnvLe.cons AV.le.unk ?_) (by repeat' first | exact AH.le.refl _ | assumption | (refine AH.le_put ?_ (by first | assumption | exact (AH.blk_put_ne _ _ (by assumption)).trans (by assumption) | exact AH.none_put (by assumption) | exact AH.none_put (AH.none_put (by assumption)) | (simp only [AH.blk_setTok, AH.tok_put] at *; first | assumption | exact AH.none_put (by assumption)))) | (refine AH.le_setTok ?_ (by first | assumption | exact (AH.blk_put_ne _ _ (by assumption)).trans (by assumption) | exact AH.none_put (by assumption) | exact AH.none_put (AH.none_put (by assumption)) | (simp only [AH.blk_setTok, AH.tok_put] at *; first | assumption | exact AH.none_put (by assumption)))) | (refine AH.le_putM ?_ (by first | assumption | exact (AH.mp_putM_ne _ _ (by assumption)).trans (by assumption) | (simp only [AH.mp_put, AH.mp_setTok] at *; assumption))))) fun k hk => .of_vg hm ?_
  by_cases h3 : k < l.length
  · have hc3 : (k : Int) < (l.length : Int) := by omega
    simp only [hc3, F_ref_Why, g_ref_Why, go_sem, reduceIte, Nat.reduceEqDiff, Nat.reduceAdd, Nat.reduceMul, Nat.reduceSub, reduceCtorEq, Nat.reduceLeDiff, Nat.reduceLT, Int.reduceLT, Int.reduceLE, Int.reduceToNat, Int.reduceAdd, Int.reduceSub, Int.reduceNeg, Int.reduceMul, Int.reduceEq, ← Bool.decide_and, ← Bool.decide_or, ↓tq_n, ↓tq_e, ↓tq_r, ↓bq_n, ↓bq_e, ↓bq_r, ↓rq_n, ↓rq_r, ↓rq_e]
    refine awp_loop (fun j : Nat => [(0, .sl n1 l.length (sms l) u1), (2, I a), (3, I b), (11, gl (trs R) R.length .unk), (12, .msl b12 0 l.length (some l.length)), (14, I k), (15, I j)]) (fun j => h'.put b12 (i64s (fwK P k (fwR P F0 k) j))) (fun j => j ≤ P.length) (fun j => P.length - j) 0 (Nat.zero_le _) (GStep.forget (by repeat' first | exact EnvLe.nil _ | refine EnvLe.cons (AV.le.of_eq rfl) ?_ | refine EnvLe.cons (AV.le.undef _) ?_ | refine EnvLe.cons AV.le.unk ?_) (by repeat' first | exact AH.le.refl _ | assumption | (refine AH.le_put ?_ (by first | assumption | exact (AH.blk_put_ne _ _ (by assumption)).trans (by assumption) | exact AH.none_put (by assumption) | exact AH.none_put (AH.none_put (by assumption)) | (simp only [AH.blk_setTok, AH.tok_put] at *; first | assumption | exact AH.none_put (by assumption)))) | (refine AH.le_setTok ?_ (by first | assumption | exact (AH.blk_put_ne _ _ (by assumption)).trans (by assumption) | exact AH.none_put (by assumption) | exact AH.none_put (AH.none_put (by assumption)) | (simp only [AH.blk_setTok, AH.tok_put] at *; first | assumption | exact AH.none_put (by assumption)))) | (refine AH.le_putM ?_ (by first | assumption | exact (AH.mp_putM_ne _ _ (by assumption)).trans (by assumption) | (simp only [AH.mp_put, AH.mp_setTok] at *; assumption))))) fun j hj => .of_vg hm ?_
    by_cases h5 : j < P.length
    · have hc5 : (j : Int) < (R.length : Int) := by omega
      have hpm : P.getD j d3 ∈ P := mem_getD h5
      have hfl := hst k j hj
      have hsucc : fwK P k (fwR P F0 k) (j + 1) = if fv (fwK P k (fwR P F0 k) j) (P.getD j d3).2.2 = k ∧ fv (fwK P k (fwR P F0 k) j) (P.getD j d3).2.1 < 0 then (fwK P k (fwR P F0 k) j).set (P.getD j d3).2.1.toNat (k + 1) else fwK P k (fwR P F0 k) j := rfl
      obtain ⟨⟨z1, z2⟩, z3, z4⟩ := g3 _ hpm
      have hdr := trs_drop (e := R) (i := j) (by omega)
      rw [hRg j h5] at hdr
      obtain ⟨p, hpe⟩ : ∃ p, p = P.getD j d3 := ⟨_, rfl⟩
      obtain ⟨g, hge⟩ : ∃ g, g = fwK P k (fwR P F0 k) j := ⟨_, rfl⟩
      rw [← hpe] at hsucc z1 z2 z3 z4 hdr
      rw [← hge] at hsucc hfl ⊢
      obtain ⟨q, hq⟩ : ∃ q : Nat, p.2.1 = q := ⟨p.2.1.toNat, by omega⟩
      obtain ⟨e, he⟩ : ∃ e : Nat, p.2.2 = e := ⟨p.2.2.toNat, by omega⟩
      have hel : e < l.length := by omega
      have hql : q < l.length := by omega
      have hef : e < g.length := by omega
      have hqf : q < g.length := by omega
      have hec : (e : Int) < (l.length : Int) := by omega
      have he0 : (0 : Int) ≤ (e : Int) := by omega
      have hqc : (q : Int) < (l.length : Int) := by omega
      have hq0 : (0 : Int) ≤ (q : Int) := by omega
      have efv : fv g p.2.2 = g.getD e 0 := by unfold fv; rw [he, Int.toNat_natCast]
      have qfv : fv g p.2.1 = g.getD q 0 := by unfold fv; rw [hq, Int.toNat_natCast]
      have hpe2 := plc_id g2 hel
      have hpq2 := plc_id g2 hql
      simp only [idT, idA, he, hq, Int.toNat_natCast] at hdr
      simp only [hc5, hdr, F_ref_Why, g_ref_Why, go_sem, reduceIte, Nat.reduceEqDiff, Nat.reduceAdd, Nat.reduceMul, Nat.reduceSub, reduceCtorEq, Nat.reduceLeDiff, Nat.reduceLT, Int.reduceLT, Int.reduceLE, Int.reduceToNat, Int.reduceAdd, Int.reduceSub, Int.reduceNeg, Int.reduceMul, Int.reduceEq, ← Bool.decide_and, ← Bool.decide_or, ↓tq_n, ↓tq_e, ↓tq_r, ↓bq_n, ↓bq_e, ↓bq_r, ↓rq_n, ↓rq_r, ↓rq_e]
      refine CallG.mk (r_ref_place n1 l u1 _ _) ?_
      rw [hpe2]
      by_cases d1 : g.getD e 0 = k
      case neg =>
        rw [if_neg (fun hh => d1 (by rw [← efv]; exact hh.1))] at hsucc
        simp only [hec, he0, i64s_drop hef, d1, F_ref_Why, g_ref_Why, go_sem, reduceIte, Nat.reduceEqDiff, Nat.reduceAdd, Nat.reduceMul, Nat.reduceSub, reduceCtorEq, Nat.reduceLeDiff, Nat.reduceLT, Int.reduceLT, Int.reduceLE, Int.reduceToNat, Int.reduceAdd, Int.reduceSub, Int.reduceNeg, Int.reduceMul, Int.reduceEq, ← Bool.decide_and, ← Bool.decide_or, ↓tq_n, ↓tq_e, ↓tq_r, ↓bq_n, ↓bq_e, ↓bq_r, ↓rq_n, ↓rq_r, ↓rq_e]
        exact ⟨by rw [inR64]; omega, j + 1, by omega, by omega, by rw [hsucc]; exact (GStep.forget (by repeat' first | exact EnvLe.nil _ | refine EnvLe.cons (AV.le.of_eq rfl) ?_ | refine EnvLe.cons (AV.le.undef _) ?_ | refine EnvLe.cons AV.le.unk ?_) (by repeat' first | exact AH.le.refl _ | assumption | (refine AH.le_put ?_ (by first | assumption | exact (AH.blk_put_ne _ _ (by assumption)).trans (by assumption) | exact AH.none_put (by assumption) | exact AH.none_put (AH.none_put (by assumption)) | (simp only [AH.blk_setTok, AH.tok_put] at *; first | assumption | exact AH.none_put (by assumption)))) | (refine AH.le_setTok ?_ (by first | assumption | exact (AH.blk_put_ne _ _ (by assumption)).trans (by assumption) | exact AH.none_put (by assumption) | exact AH.none_put (AH.none_put (by assumption)) | (simp only [AH.blk_setTok, AH.tok_put] at *; first | assumption | exact AH.none_put (by assumption)))) | (refine AH.le_putM ?_ (by first | assumption | exact (AH.mp_putM_ne _ _ (by assumption)).trans (by assumption) | (simp only [AH.mp_put, AH.mp_setTok] at *; assumption)))))⟩
      simp only [hec, he0, i64s_drop hef, d1, hc5, hdr, F_ref_Why, g_ref_Why, go_sem, reduceIte, Nat.reduceEqDiff, Nat.reduceAdd, Nat.reduceMul, Nat.reduceSub, reduceCtorEq, Nat.reduceLeDiff, Nat.reduceLT, Int.reduceLT, Int.reduceLE, Int.reduceToNat, Int.reduceAdd, Int.reduceSub, Int.reduceNeg, Int.reduceMul, Int.reduceEq, ← Bool.decide_and, ← Bool.decide_or, ↓tq_n, ↓tq_e, ↓tq_r, ↓bq_n, ↓bq_e, ↓bq_r, ↓rq_n, ↓rq_r, ↓rq_e]
      refine CallG.mk (r_ref_place n1 l u1 _ _) ?_
      rw [hpq2]
      by_cases d2 : g.getD q 0 < 0
      case neg =>
        rw [if_neg (fun hh => d2 (by rw [← qfv]; exact hh.2))] at hsucc
        simp only [hqc, hq0, i64s_drop hqf, d2, F_ref_Why, g_ref_Why, go_sem, reduceIte, Nat.reduceEqDiff, Nat.reduceAdd, Nat.reduceMul, Nat.reduceSub, reduceCtorEq, Nat.reduceLeDiff, Nat.reduceLT, Int.reduceLT, Int.reduceLE, Int.reduceToNat, Int.reduceAdd, Int.reduceSub, Int.reduceNeg, Int.reduceMul, Int.reduceEq, ← Bool.decide_and, ← Bool.decide_or, ↓tq_n, ↓tq_e, ↓tq_r, ↓bq_n, ↓bq_e, ↓bq_r, ↓rq_n, ↓rq_r, ↓rq_e]
        exact ⟨by rw [inR64]; omega, j + 1, by omega, by omega, by rw [hsucc]; exact (GStep.forget (by repeat' first | exact EnvLe.nil _ | refine EnvLe.cons (AV.le.of_eq rfl) ?_ | refine EnvLe.cons (AV.le.undef _) ?_ | refine EnvLe.cons AV.le.unk ?_) (by repeat' first | exact AH.le.refl _ | assumption | (refine AH.le_put ?_ (by first | assumption | exact (AH.blk_put_ne _ _ (by assumption)).trans (by assumption) | exact AH.none_put (by assumption) | exact AH.none_put (AH.none_put (by assumption)) | (simp only [AH.blk_setTok, AH.tok_put] at *; first | assumption | exact AH.none_put (by assumption)))) | (refine AH.le_setTok ?_ (by first | assumption | exact (AH.blk_put_ne _ _ (by assumption)).trans (by assumption) | exact AH.none_put (by assumption) | exact AH.none_put (AH.none_put (by assumption)) | (simp only [AH.blk_setTok, AH.tok_put] at *; first | assumption | exact AH.none_put (by assumption)))) | (refine AH.le_putM ?_ (by first | assumption | exact (AH.mp_putM_ne _ _ (by assumption)).trans (by assumption) | (simp only [AH.mp_put, AH.mp_setTok] at *; assumption)))))⟩
      rw [if_pos ⟨by rw [efv]; exact d1, by rw [qfv]; exact d2⟩, hq, Int.toNat_natCast] at hsucc
      simp only [hqc, hq0, i64s_drop hqf, d2, hc5, hdr, F_ref_Why, g_ref_Why, go_sem, reduceIte, Nat.reduceEqDiff, Nat.reduceAdd, Nat.reduceMul, Nat.reduceSub, reduceCtorEq, Nat.reduceLeDiff, Nat.reduceLT, Int.reduceLT, Int.reduceLE, Int.reduceToNat, Int.reduceAdd, Int.reduceSub, Int.reduceNeg, Int.reduceMul, Int.reduceEq, ← Bool.decide_and, ← Bool.decide_or, ↓tq_n, ↓tq_e, ↓tq_r, ↓bq_n, ↓bq_e, ↓bq_r, ↓rq_n, ↓rq_r, ↓rq_e]
      refine CallG.mk (r_ref_place n1 l u1 _ _) ?_
      rw [hpq2]
      have hcl2 : q + 1 ≤ (i64s g).length := by rw [i64s_len]; omega
      simp only [hqc, hq0, hcl2, F_ref_Why, g_ref_Why, go_sem, reduceIte, Nat.reduceEqDiff, Nat.reduceAdd, Nat.reduceMul, Nat.reduceSub, reduceCtorEq, Nat.reduceLeDiff, Nat.reduceLT, Int.reduceLT, Int.reduceLE, Int.reduceToNat, Int.reduceAdd, Int.reduceSub, Int.reduceNeg, Int.reduceMul, Int.reduceEq, ← Bool.decide_and, ← Bool.decide_or, ↓tq_n, ↓tq_e, ↓tq_r, ↓bq_n, ↓bq_e, ↓bq_r, ↓rq_n, ↓rq_r, ↓rq_e]
      refine ⟨by rw [inR64]; omega, by rw [inR64]; omega, j + 1, by omega, by omega, ?_⟩
      rw [hsucc, i64s_set]
      exact (GStep.forget (by repeat' first | exact EnvLe.nil _ | refine EnvLe.cons (AV.le.of_eq rfl) ?_ | refine EnvLe.cons (AV.le.undef _) ?_ | refine EnvLe.cons AV.le.unk ?_) (by repeat' first | exact AH.le.refl _ | assumption | (refine AH.le_put ?_ (by first | assumption | exact (AH.blk_put_ne _ _ (by assumption)).trans (by assumption) | exact AH.none_put (by assumption) | exact AH.none_put (AH.none_put (by assumption)) | (simp only [AH.blk_setTok, AH.tok_put] at *; first | assumption | exact AH.none_put (by assumption)))) | (refine AH.le_setTok ?_ (by first | assumption | exact (AH.blk_put_ne _ _ (by assumption)).trans (by assumption) | exact AH.none_put (by assumption) | exact AH.none_put (AH.none_put (by assumption)) | (simp only [AH.blk_setTok, AH.tok_put] at *; first | assumption | exact AH.none_put (by assumption)))) | (refine AH.le_putM ?_ (by first | assumption | exact (AH.mp_putM_ne _ _ (by assumption)).trans (by assumption) | (simp only [AH.mp_put, AH.mp_setTok] at *; assumption)))))
    have h5 : j = P.length := by omega
    subst h5
    have hxx : ¬ (P.length : Int) < (R.length : Int) := by omega
    simp only [hxx, F_ref_Why, g_ref_Why, go_sem, reduceIte, Nat.reduceEqDiff, Nat.reduceAdd, Nat.reduceMul, Nat.reduceSub, reduceCtorEq, Nat.reduceLeDiff, Nat.reduceLT, Int.reduceLT, Int.reduceLE, Int.reduceToNat, Int.reduceAdd, Int.reduceSub, Int.reduceNeg, Int.reduceMul, Int.reduceEq, ← Bool.decide_and, ← Bool.decide_or, ↓tq_n, ↓tq_e, ↓tq_r, ↓bq_n, ↓bq_e, ↓bq_r, ↓rq_n, ↓rq_r, ↓rq_e]
    exact ⟨by rw [inR64]; omega, k + 1, by omega, by omega, (GStep.forget (by repeat' first | exact EnvLe.nil _ | refine EnvLe.cons (AV.le.of_eq rfl) ?_ | refine EnvLe.cons (AV.le.undef _) ?_ | refine EnvLe.cons AV.le.unk ?_) (by repeat' first | exact AH.le.refl _ | assumption | (refine AH.le_put ?_ (by first | assumption | exact (AH.blk_put_ne _ _ (by assumption)).trans (by assumption) | exact AH.none_put (by assumption) | exact AH.none_put (AH.none_put (by assumption)) | (simp only [AH.blk_setTok, AH.tok_put] at *; first | assumption | exact AH.none_put (by assumption)))) | (refine AH.le_setTok ?_ (by first | assumption | exact (AH.blk_put_ne _ _ (by assumption)).trans (by assumption) | exact AH.none_put (by assumption) | exact AH.none_put (AH.none_put (by assumption)) | (simp only [AH.blk_setTok, AH.tok_put] at *; first | assumption | exact AH.none_put (by assumption)))) | (refine AH.le_putM ?_ (by first | assumption | exact (AH.mp_putM_ne _ _ (by assumption)).trans (by assumption) | (simp only [AH.mp_put, AH.mp_setTok] at *; assumption)))))⟩
  have h3 : k = l.length := by omega
  subst h3
  rw [← hfar]
  obtain ⟨f, hf⟩ : ∃ f, f = far l.length P (ib : Int) := ⟨_, rfl⟩
  have hD := far_dst (n := l.length) (b := (ib : Int)) g3 ⟨by omega, by omega⟩
  rw [← hf] at hD hwv ⊢
  have hfl := hD.st.len
  simp only [F_ref_Why, g_ref_Why, go_sem, reduceIte, Nat.reduceEqDiff, Nat.reduceAdd, Nat.reduceMul, Nat.reduceSub, reduceCtorEq, Nat.reduceLeDiff, Nat.reduceLT, Int.reduceLT, Int.reduceLE, Int.reduceToNat, Int.reduceAdd, Int.reduceSub, Int.reduceNeg, Int.reduceMul, Int.reduceEq, ← Bool.decide_and, ← Bool.decide_or, ↓tq_n, ↓tq_e, ↓tq_r, ↓bq_n, ↓bq_e, ↓bq_r, ↓rq_n, ↓rq_r, ↓rq_e]
  refine awp_tok 16 3 (nl := true) (n := 0) (cs := []) rfl fun t ht => ?_
  have ht' : h'.tok t = none := ht
  refine awp_loop (α := List T3 × Nat × Nat) (fun p => [(0, .sl n1 l.length (sms l) u1), (3, I b), (11, gl (trs R) R.length .unk), (12, .msl b12 0 l.length (some l.length)), (16, gl (trs p.1) p.1.length (.tok t)), (17, I (l.getD p.2.1 dS).id)]) (fun p => (h'.put b12 (i64s f)).setTok t p.1.length 3)
    (fun p => p.2.1 < l.length ∧ wyI l f P ia ib p.1 p.2.1 p.2.2) (fun p => p.2.2) ([], ia, l.length + 2) ⟨hal, ⟨fun _ => ⟨rfl, rfl⟩, fun hn => absurd rfl hn, fun hn => absurd rfl hn.1, fun _ => (by simp), (by simp)⟩⟩ ?_ fun p hp => .of_vg hm ?_
  · simp only
    rw [hai]
    exact (GStep.forget (by repeat' first | exact EnvLe.nil _ | refine EnvLe.cons (AV.le.of_eq rfl) ?_ | refine EnvLe.cons (AV.le.undef _) ?_ | refine EnvLe.cons AV.le.unk ?_) (by repeat' first | exact AH.le.refl _ | assumption | (refine AH.le_put ?_ (by first | assumption | exact (AH.blk_put_ne _ _ (by assumption)).trans (by assumption) | exact AH.none_put (by assumption) | exact AH.none_put (AH.none_put (by assumption)) | (simp only [AH.blk_setTok, AH.tok_put] at *; first | assumption | exact AH.none_put (by assumption)))) | (refine AH.le_setTok ?_ (by first | assumption | exact (AH.blk_put_ne _ _ (by assumption)).trans (by assumption) | exact AH.none_put (by assumption) | exact AH.none_put (AH.none_put (by assumption)) | (simp only [AH.blk_setTok, AH.tok_put] at *; first | assumption | exact AH.none_put (by assumption)))) | (refine AH.le_putM ?_ (by first | assumption | exact (AH.mp_putM_ne _ _ (by assumption)).trans (by assumption) | (simp only [AH.mp_put, AH.mp_setTok] at *; assumption)))))
  obtain ⟨o, v, k⟩ := p
  obtain ⟨p1, p2⟩ := hp
  simp only at p1 p2 ⊢
  have ⟨w1, w2, w3, w4, w5⟩ := p2
  have hvr : 0 ≤ (v : Int) ∧ (v : Int) < l.length := ⟨by omega, by omega⟩
  have hvb : (l.getD v dS).id = b ↔ v = ib := by rw [← hbi]; exact id_iff g2 p1 hbl
  have hlG : ∀ n, h'.le ((h'.put b12 (i64s f)).setTok t n 3) := fun n => AH.le_setTok (AH.le_put (AH.le.refl _) hb12) ht'
  by_cases hstop : o ≠ [] ∧ (v : Int) = ib
  · have ho : ¬ (o.length : Int) = 0 := fun hh => hstop.1 (List.eq_nil_of_length_eq_zero (by omega))
    have h3 := w3 hstop
    rw [h3] at hwv
    have hvb1 := hvb.2 (by omega)
    simp only [ho, hvb1, F_ref_Why, g_ref_Why, go_sem, reduceIte, Nat.reduceEqDiff, Nat.reduceAdd, Nat.reduceMul, Nat.reduceSub, reduceCtorEq, Nat.reduceLeDiff, Nat.reduceLT, Int.reduceLT, Int.reduceLE, Int.reduceToNat, Int.reduceAdd, Int.reduceSub, Int.reduceNeg, Int.reduceMul, Int.reduceEq, ← Bool.decide_and, ← Bool.decide_or, ↓tq_n, ↓tq_e, ↓tq_r, ↓bq_n, ↓bq_e, ↓bq_r, ↓rq_n, ↓rq_r, ↓rq_e]
    refine ret_le (hlG _) ?_
    rw [hwv]
    exact AV.le.tupC (.cons AV.le.unk (.cons (AV.le.refl _) .nil))
  have h4 := w4 hstop
  by_cases ho : o = []
  · have hoc : (o.length : Int) = 0 := by rw [ho]; rfl
    simp only [hoc, F_ref_Why, g_ref_Why, go_sem, reduceIte, Nat.reduceEqDiff, Nat.reduceAdd, Nat.reduceMul, Nat.reduceSub, reduceCtorEq, Nat.reduceLeDiff, Nat.reduceLT, Int.reduceLT, Int.reduceLE, Int.reduceToNat, Int.reduceAdd, Int.reduceSub, Int.reduceNeg, Int.reduceMul, Int.reduceEq, ← Bool.decide_and, ← Bool.decide_or, ↓tq_n, ↓tq_e, ↓tq_r, ↓bq_n, ↓bq_e, ↓bq_r, ↓rq_n, ↓rq_r, ↓rq_e]
    refine awp_loop (α := Nat × Int) (fun p => [(0, .sl n1 l.length (sms l) u1), (3, I b), (11, gl (trs R) R.length .unk), (12, .msl b12 0 l.length (some l.length)), (16, gl (trs o) o.length (.tok t)), (17, I (l.getD v dS).id), (18, I p.2), (19, I p.1)]) (fun _ => (h'.put b12 (i64s f)).setTok t o.length 3) (fun p => p.1 ≤ P.length ∧ bsI l f P v p.1 p.2) (fun p => P.length - p.1) (0, -1) ⟨Nat.zero_le _, .inl ⟨rfl, rfl⟩⟩ (GStep.forget (by repeat' first | exact EnvLe.nil _ | refine EnvLe.cons (AV.le.of_eq rfl) ?_ | refine EnvLe.cons (AV.le.undef _) ?_ | refine EnvLe.cons AV.le.unk ?_) (by repeat' first | exact AH.le.refl _ | assumption | (refine AH.le_put ?_ (by first | assumption | exact (AH.blk_put_ne _ _ (by assumption)).trans (by assumption) | exact AH.none_put (by assumption) | exact AH.none_put (AH.none_put (by assumption)) | (simp only [AH.blk_setTok, AH.tok_put] at *; first | assumption | exact AH.none_put (by assumption)))) | (refine AH.le_setTok ?_ (by first | assumption | exact (AH.blk_put_ne _ _ (by assumption)).trans (by assumption) | exact AH.none_put (by assumption) | exact AH.none_put (AH.none_put (by assumption)) | (simp only [AH.blk_setTok, AH.tok_put] at *; first | assumption | exact AH.none_put (by assumption)))) | (refine AH.le_putM ?_ (by first | assumption | exact (AH.mp_putM_ne _ _ (by assumption)).trans (by assumption) | (simp only [AH.mp_put, AH.mp_setTok] at *; assumption))))) fun p hp => .of_vg hm ?_
    obtain ⟨j, m⟩ := p
    obtain ⟨hj, hbm⟩ := hp
    simp only at hj hbm ⊢
    by_cases h5 : j < P.length
    · have hc5 : (j : Int) < (R.length : Int) := by omega
      have hpm : P.getD j d3 ∈ P := mem_getD h5
      obtain ⟨⟨z1, z2⟩, z3, z4⟩ := g3 _ hpm
      have hdr := trs_drop (e := R) (i := j) (by omega)
      rw [hRg j h5] at hdr
      have hbs : bst l f P v (j + 1) = if (P.getD j d3).2.1 = (v : Int) ∧ 0 ≤ fv f (P.getD j d3).2.2 then (match bst l f P v j with
        | none => some (P.getD j d3)
        | some q => if btr l f (P.getD j d3) q then some (P.getD j d3) else some q) else bst l f P v j := rfl
      obtain ⟨p, hpe⟩ : ∃ p, p = P.getD j d3 := ⟨_, rfl⟩
      rw [← hpe] at hbs z1 z2 z3 z4 hdr
      obtain ⟨q, hq⟩ : ∃ q : Nat, p.2.1 = q := ⟨p.2.1.toNat, by omega⟩
      obtain ⟨e, he⟩ : ∃ e : Nat, p.2.2 = e := ⟨p.2.2.toNat, by omega⟩
      have hel : e < l.length := by omega
      have hql : q < l.length := by omega
      have hef : e < f.length := by omega
      have hec : (e : Int) < (l.length : Int) := by omega
      have he0 : (0 : Int) ≤ (e : Int) := by omega
      have efv : fv f p.2.2 = f.getD e 0 := by unfold fv; rw [he, Int.toNat_natCast]
      have eid : idA l p.2.2 = (l.getD e dS).id := by unfold idA; rw [he, Int.toNat_natCast]
      have hpe2 := plc_id g2 hel
      simp only [idT, idA, he, hq, Int.toNat_natCast] at hdr
      by_cases d1 : (l.getD q dS).id = (l.getD v dS).id
      case neg =>
        rw [if_neg (fun hh => d1 ((id_iff g2 hql p1).2 (by have := hh.1; omega)))] at hbs
        simp only [hc5, hdr, decide_eq_false d1, F_ref_Why, g_ref_Why, go_sem, reduceIte, Nat.reduceEqDiff, Nat.reduceAdd, Nat.reduceMul, Nat.reduceSub, reduceCtorEq, Nat.reduceLeDiff, Nat.reduceLT, Int.reduceLT, Int.reduceLE, Int.reduceToNat, Int.reduceAdd, Int.reduceSub, Int.reduceNeg, Int.reduceMul, Int.reduceEq, ← Bool.decide_and, ← Bool.decide_or, ↓tq_n, ↓tq_e, ↓tq_r, ↓bq_n, ↓bq_e, ↓bq_r, ↓rq_n, ↓rq_r, ↓rq_e]
        exact ⟨by rw [inR64]; omega, (j + 1, m), ⟨by simp only; omega, by unfold bsI at hbm ⊢; rw [hbs]; exact hbm⟩, by simp only; omega, (GStep.forget (by repeat' first | exact EnvLe.nil _ | refine EnvLe.cons (AV.le.of_eq rfl) ?_ | refine EnvLe.cons (AV.le.undef _) ?_ | refine EnvLe.cons AV.le.unk ?_) (by repeat' first | exact AH.le.refl _ | assumption | (refine AH.le_put ?_ (by first | assumption | exact (AH.blk_put_ne _ _ (by assumption)).trans (by assumption) | exact AH.none_put (by assumption) | exact AH.none_put (AH.none_put (by assumption)) | (simp only [AH.blk_setTok, AH.tok_put] at *; first | assumption | exact AH.none_put (by assumption)))) | (refine AH.le_setTok ?_ (by first | assumption | exact (AH.blk_put_ne _ _ (by assumption)).trans (by assumption) | exact AH.none_put (by assumption) | exact AH.none_put (AH.none_put (by assumption)) | (simp only [AH.blk_setTok, AH.tok_put] at *; first | assumption | exact AH.none_put (by assumption)))) | (refine AH.le_putM ?_ (by first | assumption | exact (AH.mp_putM_ne _ _ (by assumption)).trans (by assumption) | (simp only [AH.mp_put, AH.mp_setTok] at *; assumption)))))⟩
      have hqv := (id_iff g2 hql p1).1 d1
      simp only [hc5, hdr, decide_eq_true d1, F_ref_Why, g_ref_Why, go_sem, reduceIte, Nat.reduceEqDiff, Nat.reduceAdd, Nat.reduceMul, Nat.reduceSub, reduceCtorEq, Nat.reduceLeDiff, Nat.reduceLT, Int.reduceLT, Int.reduceLE, Int.reduceToNat, Int.reduceAdd, Int.reduceSub, Int.reduceNeg, Int.reduceMul, Int.reduceEq, ← Bool.decide_and, ← Bool.decide_or, ↓tq_n, ↓tq_e, ↓tq_r, ↓bq_n, ↓bq_e, ↓bq_r, ↓rq_n, ↓rq_r, ↓rq_e]
      refine CallG.mk (r_ref_place n1 l u1 _ _) ?_
      rw [hpe2]
      by_cases d2 : f.getD e 0 < 0
      case pos =>
        rw [if_neg (fun hh => by have := hh.2; omega)] at hbs
        simp only [hec, he0, i64s_drop hef, d2, F_ref_Why, g_ref_Why, go_sem, reduceIte, Nat.reduceEqDiff, Nat.reduceAdd, Nat.reduceMul, Nat.reduceSub, reduceCtorEq, Nat.reduceLeDiff, Nat.reduceLT, Int.reduceLT, Int.reduceLE, Int.reduceToNat, Int.reduceAdd, Int.reduceSub, Int.reduceNeg, Int.reduceMul, Int.reduceEq, ← Bool.decide_and, ← Bool.decide_or, ↓tq_n, ↓tq_e, ↓tq_r, ↓bq_n, ↓bq_e, ↓bq_r, ↓rq_n, ↓rq_r, ↓rq_e]
        exact ⟨by rw [inR64]; omega, (j + 1, m), ⟨by simp only; omega, by unfold bsI at hbm ⊢; rw [hbs]; exact hbm⟩, by simp only; omega, (GStep.forget (by repeat' first | exact EnvLe.nil _ | refine EnvLe.cons (AV.le.of_eq rfl) ?_ | refine EnvLe.cons (AV.le.undef _) ?_ | refine EnvLe.cons AV.le.unk ?_) (by repeat' first | exact AH.le.refl _ | assumption | (refine AH.le_put ?_ (by first | assumption | exact (AH.blk_put_ne _ _ (by assumption)).trans (by assumption) | exact AH.none_put (by assumption) | exact AH.none_put (AH.none_put (by assumption)) | (simp only [AH.blk_setTok, AH.tok_put] at *; first | assumption | exact AH.none_put (by assumption)))) | (refine AH.le_setTok ?_ (by first | assumption | exact (AH.blk_put_ne _ _ (by assumption)).trans (by assumption) | exact AH.none_put (by assumption) | exact AH.none_put (AH.none_put (by assumption)) | (simp only [AH.blk_setTok, AH.tok_put] at *; first | assumption | exact AH.none_put (by assumption)))) | (refine AH.le_putM ?_ (by first | assumption | exact (AH.mp_putM_ne _ _ (by assumption)).trans (by assumption) | (simp only [AH.mp_put, AH.mp_setTok] at *; assumption)))))⟩
      rw [if_pos ⟨by omega, by omega⟩] at hbs
      rcases hbm with ⟨rfl, hb⟩ | ⟨r, rfl, hrP, hb⟩
      · rw [hb] at hbs
        simp only at hbs
        have hneg : (-1 : Int) < 0 := by decide
        simp only [hec, he0, i64s_drop hef, d2, hneg, F_ref_Why, g_ref_Why, go_sem, reduceIte, Nat.reduceEqDiff, Nat.reduceAdd, Nat.reduceMul, Nat.reduceSub, reduceCtorEq, Nat.reduceLeDiff, Nat.reduceLT, Int.reduceLT, Int.reduceLE, Int.reduceToNat, Int.reduceAdd, Int.reduceSub, Int.reduceNeg, Int.reduceMul, Int.reduceEq, ← Bool.decide_and, ← Bool.decide_or, ↓tq_n, ↓tq_e, ↓tq_r, ↓bq_n, ↓bq_e, ↓bq_r, ↓rq_n, ↓rq_r, ↓rq_e]
        exact ⟨by rw [inR64]; omega, (j + 1, (j : Int)), ⟨by simp only; omega, .inr ⟨j, rfl, h5, by rw [hbs, hpe]⟩⟩, by simp only; omega, (GStep.forget (by repeat' first | exact EnvLe.nil _ | refine EnvLe.cons (AV.le.of_eq rfl) ?_ | refine EnvLe.cons (AV.le.undef _) ?_ | refine EnvLe.cons AV.le.unk ?_) (by repeat' first | exact AH.le.refl _ | assumption | (refine AH.le_put ?_ (by first | assumption | exact (AH.blk_put_ne _ _ (by assumption)).trans (by assumption) | exact AH.none_put (by assumption) | exact AH.none_put (AH.none_put (by assumption)) | (simp only [AH.blk_setTok, AH.tok_put] at *; first | assumption | exact AH.none_put (by assumption)))) | (refine AH.le_setTok ?_ (by first | assumption | exact (AH.blk_put_ne _ _ (by assumption)).trans (by assumption) | exact AH.none_put (by assumption) | exact AH.none_put (AH.none_put (by assumption)) | (simp only [AH.blk_setTok, AH.tok_put] at *; first | assumption | exact AH.none_put (by assumption)))) | (refine AH.le_putM ?_ (by first | assumption | exact (AH.mp_putM_ne _ _ (by assumption)).trans (by assumption) | (simp only [AH.mp_put, AH.mp_setTok] at *; assumption)))))⟩
      · rw [hb] at hbs
        simp only at hbs
        have hm0 : ¬ (r : Int) < 0 := by omega
        have hrd := trs_drop (e := R) (i := r) (by omega)
        rw [hRg r hrP] at hrd
        obtain ⟨⟨y1, y2⟩, y3, y4⟩ := g3 _ (mem_getD (d := d3) hrP)
        obtain ⟨z, hz⟩ : ∃ z, z = P.getD r d3 := ⟨_, rfl⟩
        have hbs0 := hbs
        rw [← hz] at hbs y1 y2 y3 y4 hrd
        obtain ⟨s, hs⟩ : ∃ s : Nat, z.2.2 = s := ⟨z.2.2.toNat, by omega⟩
        have hsl : s < l.length := by omega
        have hsf : s < f.length := by omega
        have hsc : (s : Int) < (l.length : Int) := by omega
        have hs0 : (0 : Int) ≤ (s : Int) := by omega
        have sfv : fv f z.2.2 = f.getD s 0 := by unfold fv; rw [hs, Int.toNat_natCast]
        have sid : idA l z.2.2 = (l.getD s dS).id := by unfold idA; rw [hs, Int.toNat_natCast]
        have hps2 := plc_id g2 hsl
        simp only [idT, idA, hs, Int.toNat_natCast] at hrd
        have hrc : (r : Int) < (R.length : Int) := by omega
        have hr0 : (0 : Int) ≤ (r : Int) := by omega
        have hj0 : (0 : Int) ≤ (j : Int) := by omega
        have hbte : btr l f p z ↔ (f.getD e 0 < f.getD s 0 ∨ f.getD e 0 = f.getD s 0 ∧ ((l.getD e dS).id < (l.getD s dS).id ∨ (l.getD e dS).id = (l.getD s dS).id ∧ p.1 < z.1)) := by unfold btr; rw [efv, sfv, eid, sid]
        have hyes : btr l f p z → bsI l f P v (j + 1) j := fun hh => .inr ⟨j, rfl, h5, by rw [hbs, if_pos hh, hpe]⟩
        have hno : ¬ btr l f p z → bsI l f P v (j + 1) r := fun hh => .inr ⟨r, rfl, hrP, by rw [hbs, if_neg hh, hz]⟩
        simp only [hec, he0, i64s_drop hef, d2, hm0, hc5, hdr, F_ref_Why, g_ref_Why, go_sem, reduceIte, Nat.reduceEqDiff, Nat.reduceAdd, Nat.reduceMul, Nat.reduceSub, reduceCtorEq, Nat.reduceLeDiff, Nat.reduceLT, Int.reduceLT, Int.reduceLE, Int.reduceToNat, Int.reduceAdd, Int.reduceSub, Int.reduceNeg, Int.reduceMul, Int.reduceEq, ← Bool.decide_and, ← Bool.decide_or, ↓tq_n, ↓tq_e, ↓tq_r, ↓bq_n, ↓bq_e, ↓bq_r, ↓rq_n, ↓rq_r, ↓rq_e]
        refine CallG.mk (r_ref_place n1 l u1 _ _) ?_
        rw [hpe2]
        simp only [hec, he0, i64s_drop hef, hrc, hr0, hrd, F_ref_Why, g_ref_Why, go_sem, reduceIte, Nat.reduceEqDiff, Nat.reduceAdd, Nat.reduceMul, Nat.reduceSub, reduceCtorEq, Nat.reduceLeDiff, Nat.reduceLT, Int.reduceLT, Int.reduceLE, Int.reduceToNat, Int.reduceAdd, Int.reduceSub, Int.reduceNeg, Int.reduceMul, Int.reduceEq, ← Bool.decide_and, ← Bool.decide_or, ↓tq_n, ↓tq_e, ↓tq_r, ↓bq_n, ↓bq_e, ↓bq_r, ↓rq_n, ↓rq_r, ↓rq_e]
        refine CallG.mk (r_ref_place n1 l u1 _ _) ?_
        rw [hps2]
        by_cases x1 : f.getD e 0 < f.getD s 0
        · simp only [hsc, hs0, i64s_drop hsf, hec, he0, hc5, hdr, hrc, hr0, hrd, x1, F_ref_Why, g_ref_Why, go_sem, reduceIte, Nat.reduceEqDiff, Nat.reduceAdd, Nat.reduceMul, Nat.reduceSub, reduceCtorEq, Nat.reduceLeDiff, Nat.reduceLT, Int.reduceLT, Int.reduceLE, Int.reduceToNat, Int.reduceAdd, Int.reduceSub, Int.reduceNeg, Int.reduceMul, Int.reduceEq, ← Bool.decide_and, ← Bool.decide_or, ↓tq_n, ↓tq_e, ↓tq_r, ↓bq_n, ↓bq_e, ↓bq_r, ↓rq_n, ↓rq_r, ↓rq_e]
          exact ⟨by rw [inR64]; omega, (j + 1, (j : Int)), ⟨by simp only; omega, hyes (hbte.2 (.inl x1))⟩, by simp only; omega, (GStep.forget (by repeat' first | exact EnvLe.nil _ | refine EnvLe.cons (AV.le.of_eq rfl) ?_ | refine EnvLe.cons (AV.le.undef _) ?_ | refine EnvLe.cons AV.le.unk ?_) (by repeat' first | exact AH.le.refl _ | assumption | (refine AH.le_put ?_ (by first | assumption | exact (AH.blk_put_ne _ _ (by assumption)).trans (by assumption) | exact AH.none_put (by assumption) | exact AH.none_put (AH.none_put (by assumption)) | (simp only [AH.blk_setTok, AH.tok_put] at *; first | assumption | exact AH.none_put (by assumption)))) | (refine AH.le_setTok ?_ (by first | assumption | exact (AH.blk_put_ne _ _ (by assumption)).trans (by assumption) | exact AH.none_put (by assumption) | exact AH.none_put (AH.none_put (by assumption)) | (simp only [AH.blk_setTok, AH.tok_put] at *; first | assumption | exact AH.none_put (by assumption)))) | (refine AH.le_putM ?_ (by first | assumption | exact (AH.mp_putM_ne _ _ (by assumption)).trans (by assumption) | (simp only [AH.mp_put, AH.mp_setTok] at *; assumption)))))⟩
        by_cases x2 : f.getD e 0 = f.getD s 0
        case neg =>
          simp only [hsc, hs0, i64s_drop hsf, hec, he0, hc5, hdr, hrc, hr0, hrd, x1, x2, F_ref_Why, g_ref_Why, go_sem, reduceIte, Nat.reduceEqDiff, Nat.reduceAdd, Nat.reduceMul, Nat.reduceSub, reduceCtorEq, Nat.reduceLeDiff, Nat.reduceLT, Int.reduceLT, Int.reduceLE, Int.reduceToNat, Int.reduceAdd, Int.reduceSub, Int.reduceNeg, Int.reduceMul, Int.reduceEq, ← Bool.decide_and, ← Bool.decide_or, ↓tq_n, ↓tq_e, ↓tq_r, ↓bq_n, ↓bq_e, ↓bq_r, ↓rq_n, ↓rq_r, ↓rq_e]
          exact ⟨by rw [inR64]; omega, (j + 1, (r : Int)), ⟨by simp only; omega, hno (fun hh => by rw [hbte] at hh; omega)⟩, by simp only; omega, (GStep.forget (by repeat' first | exact EnvLe.nil _ | refine EnvLe.cons (AV.le.of_eq rfl) ?_ | refine EnvLe.cons (AV.le.undef _) ?_ | refine EnvLe.cons AV.le.unk ?_) (by repeat' first | exact AH.le.refl _ | assumption | (refine AH.le_put ?_ (by first | assumption | exact (AH.blk_put_ne _ _ (by assumption)).trans (by assumption) | exact AH.none_put (by assumption) | exact AH.none_put (AH.none_put (by assumption)) | (simp only [AH.blk_setTok, AH.tok_put] at *; first | assumption | exact AH.none_put (by assumption)))) | (refine AH.le_setTok ?_ (by first | assumption | exact (AH.blk_put_ne _ _ (by assumption)).trans (by assumption) | exact AH.none_put (by assumption) | exact AH.none_put (AH.none_put (by assumption)) | (simp only [AH.blk_setTok, AH.tok_put] at *; first | assumption | exact AH.none_put (by assumption)))) | (refine AH.le_putM ?_ (by first | assumption | exact (AH.mp_putM_ne _ _ (by assumption)).trans (by assumption) | (simp only [AH.mp_put, AH.mp_setTok] at *; assumption)))))⟩
        by_cases x3 : (l.getD e dS).id < (l.getD s dS).id
        · simp only [hsc, hs0, i64s_drop hsf, hec, he0, hc5, hdr, hrc, hr0, hrd, decide_eq_false x1, decide_eq_true x2, x3, F_ref_Why, g_ref_Why, go_sem, reduceIte, Nat.reduceEqDiff, Nat.reduceAdd, Nat.reduceMul, Nat.reduceSub, reduceCtorEq, Nat.reduceLeDiff, Nat.reduceLT, Int.reduceLT, Int.reduceLE, Int.reduceToNat, Int.reduceAdd, Int.reduceSub, Int.reduceNeg, Int.reduceMul, Int.reduceEq, ← Bool.decide_and, ← Bool.decide_or, ↓tq_n, ↓tq_e, ↓tq_r, ↓bq_n, ↓bq_e, ↓bq_r, ↓rq_n, ↓rq_r, ↓rq_e]
          exact ⟨by rw [inR64]; omega, (j + 1, (j : Int)), ⟨by simp only; omega, hyes (hbte.2 (.inr ⟨x2, .inl x3⟩))⟩, by simp only; omega, (GStep.forget (by repeat' first | exact EnvLe.nil _ | refine EnvLe.cons (AV.le.of_eq rfl) ?_ | refine EnvLe.cons (AV.le.undef _) ?_ | refine EnvLe.cons AV.le.unk ?_) (by repeat' first | exact AH.le.refl _ | assumption | (refine AH.le_put ?_ (by first | assumption | exact (AH.blk_put_ne _ _ (by assumption)).trans (by assumption) | exact AH.none_put (by assumption) | exact AH.none_put (AH.none_put (by assumption)) | (simp only [AH.blk_setTok, AH.tok_put] at *; first | assumption | exact AH.none_put (by assumption)))) | (refine AH.le_setTok ?_ (by first | assumption | exact (AH.blk_put_ne _ _ (by assumption)).trans (by assumption) | exact AH.none_put (by assumption) | exact AH.none_put (AH.none_put (by assumption)) | (simp only [AH.blk_setTok, AH.tok_put] at *; first | assumption | exact AH.none_put (by assumption)))) | (refine AH.le_putM ?_ (by first | assumption | exact (AH.mp_putM_ne _ _ (by assumption)).trans (by assumption) | (simp only [AH.mp_put, AH.mp_setTok] at *; assumption)))))⟩
        by_cases x4 : (l.getD e dS).id = (l.getD s dS).id
        case neg =>
          simp only [hsc, hs0, i64s_drop hsf, hec, he0, hc5, hdr, hrc, hr0, hrd, decide_eq_false x1, decide_eq_true x2, x3, x4, F_ref_Why, g_ref_Why, go_sem, reduceIte, Nat.reduceEqDiff, Nat.reduceAdd, Nat.reduceMul, Nat.reduceSub, reduceCtorEq, Nat.reduceLeDiff, Nat.reduceLT, Int.reduceLT, Int.reduceLE, Int.reduceToNat, Int.reduceAdd, Int.reduceSub, Int.reduceNeg, Int.reduceMul, Int.reduceEq, ← Bool.decide_and, ← Bool.decide_or, ↓tq_n, ↓tq_e, ↓tq_r, ↓bq_n, ↓bq_e, ↓bq_r, ↓rq_n, ↓rq_r, ↓rq_e]
          exact ⟨by rw [inR64]; omega, (j + 1, (r : Int)), ⟨by simp only; omega, hno (fun hh => by rw [hbte] at hh; omega)⟩, by simp only; omega, (GStep.forget (by repeat' first | exact EnvLe.nil _ | refine EnvLe.cons (AV.le.of_eq rfl) ?_ | refine EnvLe.cons (AV.le.undef _) ?_ | refine EnvLe.cons AV.le.unk ?_) (by repeat' first | exact AH.le.refl _ | assumption | (refine AH.le_put ?_ (by first | assumption | exact (AH.blk_put_ne _ _ (by assumption)).trans (by assumption) | exact AH.none_put (by assumption) | exact AH.none_put (AH.none_put (by assumption)) | (simp only [AH.blk_setTok, AH.tok_put] at *; first | assumption | exact AH.none_put (by assumption)))) | (refine AH.le_setTok ?_ (by first | assumption | exact (AH.blk_put_ne _ _ (by assumption)).trans (by assumption) | exact AH.none_put (by assumption) | exact AH.none_put (AH.none_put (by assumption)) | (simp only [AH.blk_setTok, AH.tok_put] at *; first | assumption | exact AH.none_put (by assumption)))) | (refine AH.le_putM ?_ (by first | assumption | exact (AH.mp_putM_ne _ _ (by assumption)).trans (by assumption) | (simp only [AH.mp_put, AH.mp_setTok] at *; assumption)))))⟩
        by_cases x5 : p.1 < z.1
        · simp only [hsc, hs0, i64s_drop hsf, hec, he0, hc5, hdr, hrc, hr0, hrd, decide_eq_false x1, decide_eq_true x2, decide_eq_false x3, decide_eq_true x4, x5, F_ref_Why, g_ref_Why, go_sem, reduceIte, Nat.reduceEqDiff, Nat.reduceAdd, Nat.reduceMul, Nat.reduceSub, reduceCtorEq, Nat.reduceLeDiff, Nat.reduceLT, Int.reduceLT, Int.reduceLE, Int.reduceToNat, Int.reduceAdd, Int.reduceSub, Int.reduceNeg, Int.reduceMul, Int.reduceEq, ← Bool.decide_and, ← Bool.decide_or, ↓tq_n, ↓tq_e, ↓tq_r, ↓bq_n, ↓bq_e, ↓bq_r, ↓rq_n, ↓rq_r, ↓rq_e]
          exact ⟨by rw [inR64]; omega, (j + 1, (j : Int)), ⟨by simp only; omega, hyes (hbte.2 (.inr ⟨x2, .inr ⟨x4, x5⟩⟩))⟩, by simp only; omega, (GStep.forget (by repeat' first | exact EnvLe.nil _ | refine EnvLe.cons (AV.le.of_eq rfl) ?_ | refine EnvLe.cons (AV.le.undef _) ?_ | refine EnvLe.cons AV.le.unk ?_) (by repeat' first | exact AH.le.refl _ | assumption | (refine AH.le_put ?_ (by first | assumption | exact (AH.blk_put_ne _ _ (by assumption)).trans (by assumption) | exact AH.none_put (by assumption) | exact AH.none_put (AH.none_put (by assumption)) | (simp only [AH.blk_setTok, AH.tok_put] at *; first | assumption | exact AH.none_put (by assumption)))) | (refine AH.le_setTok ?_ (by first | assumption | exact (AH.blk_put_ne _ _ (by assumption)).trans (by assumption) | exact AH.none_put (by assumption) | exact AH.none_put (AH.none_put (by assumption)) | (simp only [AH.blk_setTok, AH.tok_put] at *; first | assumption | exact AH.none_put (by assumption)))) | (refine AH.le_putM ?_ (by first | assumption | exact (AH.mp_putM_ne _ _ (by assumption)).trans (by assumption) | (simp only [AH.mp_put, AH.mp_setTok] at *; assumption)))))⟩
        · simp only [hsc, hs0, i64s_drop hsf, hec, he0, hc5, hdr, hrc, hr0, hrd, decide_eq_false x1, decide_eq_true x2, decide_eq_false x3, decide_eq_true x4, x5, F_ref_Why, g_ref_Why, go_sem, reduceIte, Nat.reduceEqDiff, Nat.reduceAdd, Nat.reduceMul, Nat.reduceSub, reduceCtorEq, Nat.reduceLeDiff, Nat.reduceLT, Int.reduceLT, Int.reduceLE, Int.reduceToNat, Int.reduceAdd, Int.reduceSub, Int.reduceNeg, Int.reduceMul, Int.reduceEq, ← Bool.decide_and, ← Bool.decide_or, ↓tq_n, ↓tq_e, ↓tq_r, ↓bq_n, ↓bq_e, ↓bq_r, ↓rq_n, ↓rq_r, ↓rq_e]
          exact ⟨by rw [inR64]; omega, (j + 1, (r : Int)), ⟨by simp only; omega, hno (fun hh => by rw [hbte] at hh; omega)⟩, by simp only; omega, (GStep.forget (by repeat' first | exact EnvLe.nil _ | refine EnvLe.cons (AV.le.of_eq rfl) ?_ | refine EnvLe.cons (AV.le.undef _) ?_ | refine EnvLe.cons AV.le.unk ?_) (by repeat' first | exact AH.le.refl _ | assumption | (refine AH.le_put ?_ (by first | assumption | exact (AH.blk_put_ne _ _ (by assumption)).trans (by assumption) | exact AH.none_put (by assumption) | exact AH.none_put (AH.none_put (by assumption)) | (simp only [AH.blk_setTok, AH.tok_put] at *; first | assumption | exact AH.none_put (by assumption)))) | (refine AH.le_setTok ?_ (by first | assumption | exact (AH.blk_put_ne _ _ (by assumption)).trans (by assumption) | exact AH.none_put (by assumption) | exact AH.none_put (AH.none_put (by assumption)) | (simp only [AH.blk_setTok, AH.tok_put] at *; first | assumption | exact AH.none_put (by assumption)))) | (refine AH.le_putM ?_ (by first | assumption | exact (AH.mp_putM_ne _ _ (by assumption)).trans (by assumption) | (simp only [AH.mp_put, AH.mp_setTok] at *; assumption)))))⟩
    have h5 : j = P.length := by omega
    subst h5
    have hxx : ¬ (P.length : Int) < (R.length : Int) := by omega
    rcases hbm with ⟨rfl, hb⟩ | ⟨r, rfl, hrP, hb⟩
    · have hneg : (-1 : Int) < 0 := by decide
      rw [wy_stop g3 hD p2 hvr hstop hb] at hwv
      simp only [hneg, hxx, F_ref_Why, g_ref_Why, go_sem, reduceIte, Nat.reduceEqDiff, Nat.reduceAdd, Nat.reduceMul, Nat.reduceSub, reduceCtorEq, Nat.reduceLeDiff, Nat.reduceLT, Int.reduceLT, Int.reduceLE, Int.reduceToNat, Int.reduceAdd, Int.reduceSub, Int.reduceNeg, Int.reduceMul, Int.reduceEq, ← Bool.decide_and, ← Bool.decide_or, ↓tq_n, ↓tq_e, ↓tq_r, ↓bq_n, ↓bq_e, ↓bq_r, ↓rq_n, ↓rq_r, ↓rq_e]
      refine ret_hb (hlG _) ?_
      rw [hwv]
    · obtain ⟨k', rfl, hw'⟩ := wy_next g3 hD p2 hvr hstop hb
      have hm0 : ¬ (r : Int) < 0 := by omega
      have hrd := trs_drop (e := R) (i := r) (by omega)
      rw [hRg r hrP] at hrd
      have hq := ((bst_spec (l := l) (f := f) (P := P) (at_ := (v : Int)) (j := P.length) (Nat.le_refl _)).1 _ hb)
      obtain ⟨⟨y1, y2⟩, y3, y4⟩ := g3 _ hq.1
      obtain ⟨z, hz⟩ : ∃ z, z = P.getD r d3 := ⟨_, rfl⟩
      rw [← hz] at y1 y2 y3 y4 hrd hw' hq
      obtain ⟨s, hs⟩ : ∃ s : Nat, z.2.2 = s := ⟨z.2.2.toNat, by omega⟩
      have hsl : s < l.length := by omega
      simp only [idT, idA, hs, hq.2.1, Int.toNat_natCast] at hrd hw'
      have hrc : (r : Int) < (R.length : Int) := by omega
      have hr0 : (0 : Int) ≤ (r : Int) := by omega
      have hol : o.length ≤ 100 := by omega
      simp only [hm0, hrc, hr0, hrd, hxx, F_ref_Why, g_ref_Why, go_sem, reduceIte, Nat.reduceEqDiff, Nat.reduceAdd, Nat.reduceMul, Nat.reduceSub, reduceCtorEq, Nat.reduceLeDiff, Nat.reduceLT, Int.reduceLT, Int.reduceLE, Int.reduceToNat, Int.reduceAdd, Int.reduceSub, Int.reduceNeg, Int.reduceMul, Int.reduceEq, ← Bool.decide_and, ← Bool.decide_or, ↓tq_n, ↓tq_e, ↓tq_r, ↓bq_n, ↓bq_e, ↓bq_r, ↓rq_n, ↓rq_r, ↓rq_e]
      refine ⟨by rw [trs_len], by omega, by omega, (o ++ [(z.1, (l.getD v dS).id, (l.getD s dS).id)], s, k'), ⟨hsl, hw'⟩, by simp only; omega, ?_⟩
      simp only [trs_snoc, List.length_append, List.length_singleton]
      exact (GStep.forget (by repeat' first | exact EnvLe.nil _ | refine EnvLe.cons (AV.le.of_eq rfl) ?_ | refine EnvLe.cons (AV.le.undef _) ?_ | refine EnvLe.cons AV.le.unk ?_) (by repeat' first | exact AH.le.refl _ | assumption | (refine AH.le_put ?_ (by first | assumption | exact (AH.blk_put_ne _ _ (by assumption)).trans (by assumption) | exact AH.none_put (by assumption) | exact AH.none_put (AH.none_put (by assumption)) | (simp only [AH.blk_setTok, AH.tok_put] at *; first | assumption | exact AH.none_put (by assumption)))) | (refine AH.le_setTok ?_ (by first | assumption | exact (AH.blk_put_ne _ _ (by assumption)).trans (by assumption) | exact AH.none_put (by assumption) | exact AH.none_put (AH.none_put (by assumption)) | (simp only [AH.blk_setTok, AH.tok_put] at *; first | assumption | exact AH.none_put (by assumption)))) | (refine AH.le_putM ?_ (by first | assumption | exact (AH.mp_putM_ne _ _ (by assumption)).trans (by assumption) | (simp only [AH.mp_put, AH.mp_setTok] at *; assumption)))))
  · have hoc : ¬ (o.length : Int) = 0 := fun hh => ho (List.eq_nil_of_length_eq_zero (by omega))
    have hac : ¬ (l.getD v dS).id = b := fun hh => hstop ⟨ho, by rw [hvb.1 hh]⟩
    simp only [hoc, hac, F_ref_Why, g_ref_Why, go_sem, reduceIte, Nat.reduceEqDiff, Nat.reduceAdd, Nat.reduceMul, Nat.reduceSub, reduceCtorEq, Nat.reduceLeDiff, Nat.reduceLT, Int.reduceLT, Int.reduceLE, Int.reduceToNat, Int.reduceAdd, Int.reduceSub, Int.reduceNeg, Int.reduceMul, Int.reduceEq, ← Bool.decide_and, ← Bool.decide_or, ↓tq_n, ↓tq_e, ↓tq_r, ↓bq_n, ↓bq_e, ↓bq_r, ↓rq_n, ↓rq_r, ↓rq_e]
    refine awp_loop (α := Nat × Int) (fun p => [(0, .sl n1 l.length (sms l) u1), (3, I b), (11, gl (trs R) R.length .unk), (12, .msl b12 0 l.length (some l.length)), (16, gl (trs o) o.length (.tok t)), (17, I (l.getD v dS).id), (18, I p.2), (19, I p.1)]) (fun _ => (h'.put b12 (i64s f)).setTok t o.length 3) (fun p => p.1 ≤ P.length ∧ bsI l f P v p.1 p.2) (fun p => P.length - p.1) (0, -1) ⟨Nat.zero_le _, .inl ⟨rfl, rfl⟩⟩ (GStep.forget (by repeat' first | exact EnvLe.nil _ | refine EnvLe.cons (AV.le.of_eq rfl) ?_ | refine EnvLe.cons (AV.le.undef _) ?_ | refine EnvLe.cons AV.le.unk ?_) (by repeat' first | exact AH.le.refl _ | assumption | (refine AH.le_put ?_ (by first | assumption | exact (AH.blk_put_ne _ _ (by assumption)).trans (by assumption) | exact AH.none_put (by assumption) | exact AH.none_put (AH.none_put (by assumption)) | (simp only [AH.blk_setTok, AH.tok_put] at *; first | assumption | exact AH.none_put (by assumption)))) | (refine AH.le_setTok ?_ (by first | assumption | exact (AH.blk_put_ne _ _ (by assumption)).trans (by assumption) | exact AH.none_put (by assumption) | exact AH.none_put (AH.none_put (by assumption)) | (simp only [AH.blk_setTok, AH.tok_put] at *; first | assumption | exact AH.none_put (by assumption)))) | (refine AH.le_putM ?_ (by first | assumption | exact (AH.mp_putM_ne _ _ (by assumption)).trans (by assumption) | (simp only [AH.mp_put, AH.mp_setTok] at *; assumption))))) fun p hp => .of_vg hm ?_
    obtain ⟨j, m⟩ := p
    obtain ⟨hj, hbm⟩ := hp
    simp only at hj hbm ⊢
    by_cases h5 : j < P.length
    · have hc5 : (j : Int) < (R.length : Int) := by omega
      have hpm : P.getD j d3 ∈ P := mem_getD h5
      obtain ⟨⟨z1, z2⟩, z3, z4⟩ := g3 _ hpm
      have hdr := trs_drop (e := R) (i := j) (by omega)
      rw [hRg j h5] at hdr
      have hbs : bst l f P v (j + 1) = if (P.getD j d3).2.1 = (v : Int) ∧ 0 ≤ fv f (P.getD j d3).2.2 then (match bst l f P v j with
        | none => some (P.getD j d3)
        | some q => if btr l f (P.getD j d3) q then some (P.getD j d3) else some q) else bst l f P v j := rfl
      obtain ⟨p, hpe⟩ : ∃ p, p = P.getD j d3 := ⟨_, rfl⟩
      rw [← hpe] at hbs z1 z2 z3 z4 hdr
      obtain ⟨q, hq⟩ : ∃ q : Nat, p.2.1 = q := ⟨p.2.1.toNat, by omega⟩
      obtain ⟨e, he⟩ : ∃ e : Nat, p.2.2 = e := ⟨p.2.2.toNat, by omega⟩
      have hel : e < l.length := by omega
      have hql : q < l.length := by omega
      have hef : e < f.length := by omega
      have hec : (e : Int) < (l.length : Int) := by omega
      have he0 : (0 : Int) ≤ (e : Int) := by omega
      have efv : fv f p.2.2 = f.getD e 0 := by unfold fv; rw [he, Int.toNat_natCast]
      have eid : idA l p.2.2 = (l.getD e dS).id := by unfold idA; rw [he, Int.toNat_natCast]
      have hpe2 := plc_id g2 hel
      simp only [idT, idA, he, hq, Int.toNat_natCast] at hdr
      by_cases d1 : (l.getD q dS).id = (l.getD v dS).id
      case neg =>
        rw [if_neg (fun hh => d1 ((id_iff g2 hql p1).2 (by have := hh.1; omega)))] at hbs
        simp only [hc5, hdr, decide_eq_false d1, F_ref_Why, g_ref_Why, go_sem, reduceIte, Nat.reduceEqDiff, Nat.reduceAdd, Nat.reduceMul, Nat.reduceSub, reduceCtorEq, Nat.reduceLeDiff, Nat.reduceLT, Int.reduceLT, Int.reduceLE, Int.reduceToNat, Int.reduceAdd, Int.reduceSub, Int.reduceNeg, Int.reduceMul, Int.reduceEq, ← Bool.decide_and, ← Bool.decide_or, ↓tq_n, ↓tq_e, ↓tq_r, ↓bq_n, ↓bq_e, ↓bq_r, ↓rq_n, ↓rq_r, ↓rq_e]
        exact ⟨by rw [inR64]; omega, (j + 1, m), ⟨by simp only; omega, by unfold bsI at hbm ⊢; rw [hbs]; exact hbm⟩, by simp only; omega, (GStep.forget (by repeat' first | exact EnvLe.nil _ | refine EnvLe.cons (AV.le.of_eq rfl) ?_ | refine EnvLe.cons (AV.le.undef _) ?_ | refine EnvLe.cons AV.le.unk ?_) (by repeat' first | exact AH.le.refl _ | assumption | (refine AH.le_put ?_ (by first | assumption | exact (AH.blk_put_ne _ _ (by assumption)).trans (by assumption) | exact AH.none_put (by assumption) | exact AH.none_put (AH.none_put (by assumption)) | (simp only [AH.blk_setTok, AH.tok_put] at *; first | assumption | exact AH.none_put (by assumption)))) | (refine AH.le_setTok ?_ (by first | assumption | exact (AH.blk_put_ne _ _ (by assumption)).trans (by assumption) | exact AH.none_put (by assumption) | exact AH.none_put (AH.none_put (by assumption)) | (simp only [AH.blk_setTok, AH.tok_put] at *; first | assumption | exact AH.none_put (by assumption)))) | (refine AH.le_putM ?_ (by first | assumption | exact (AH.mp_putM_ne _ _ (by assumption)).trans (by assumption) | (simp only [AH.mp_put, AH.mp_setTok] at *; assumption)))))⟩
      have hqv := (id_iff g2 hql p1).1 d1
      simp only [hc5, hdr, decide_eq_true d1, F_ref_Why, g_ref_Why, go_sem, reduceIte, Nat.reduceEqDiff, Nat.reduceAdd, Nat.reduceMul, Nat.reduceSub, reduceCtorEq, Nat.reduceLeDiff, Nat.reduceLT, Int.reduceLT, Int.reduceLE, Int.reduceToNat, Int.reduceAdd, Int.reduceSub, Int.reduceNeg, Int.reduceMul, Int.reduceEq, ← Bool.decide_and, ← Bool.decide_or, ↓tq_n, ↓tq_e, ↓tq_r, ↓bq_n, ↓bq_e, ↓bq_r, ↓rq_n, ↓rq_r, ↓rq_e]
      refine CallG.mk (r_ref_place n1 l u1 _ _) ?_
      rw [hpe2]
      by_cases d2 : f.getD e 0 < 0
      case pos =>
        rw [if_neg (fun hh => by have := hh.2; omega)] at hbs
        simp only [hec, he0, i64s_drop hef, d2, F_ref_Why, g_ref_Why, go_sem, reduceIte, Nat.reduceEqDiff, Nat.reduceAdd, Nat.reduceMul, Nat.reduceSub, reduceCtorEq, Nat.reduceLeDiff, Nat.reduceLT, Int.reduceLT, Int.reduceLE, Int.reduceToNat, Int.reduceAdd, Int.reduceSub, Int.reduceNeg, Int.reduceMul, Int.reduceEq, ← Bool.decide_and, ← Bool.decide_or, ↓tq_n, ↓tq_e, ↓tq_r, ↓bq_n, ↓bq_e, ↓bq_r, ↓rq_n, ↓rq_r, ↓rq_e]
        exact ⟨by rw [inR64]; omega, (j + 1, m), ⟨by simp only; omega, by unfold bsI at hbm ⊢; rw [hbs]; exact hbm⟩, by simp only; omega, (GStep.forget (by repeat' first | exact EnvLe.nil _ | refine EnvLe.cons (AV.le.of_eq rfl) ?_ | refine EnvLe.cons (AV.le.undef _) ?_ | refine EnvLe.cons AV.le.unk ?_) (by repeat' first | exact AH.le.refl _ | assumption | (refine AH.le_put ?_ (by first | assumption | exact (AH.blk_put_ne _ _ (by assumption)).trans (by assumption) | exact AH.none_put (by assumption) | exact AH.none_put (AH.none_put (by assumption)) | (simp only [AH.blk_setTok, AH.tok_put] at *; first | assumption | exact AH.none_put (by assumption)))) | (refine AH.le_setTok ?_ (by first | assumption | exact (AH.blk_put_ne _ _ (by assumption)).trans (by assumption) | exact AH.none_put (by assumption) | exact AH.none_put (AH.none_put (by assumption)) | (simp only [AH.blk_setTok, AH.tok_put] at *; first | assumption | exact AH.none_put (by assumption)))) | (refine AH.le_putM ?_ (by first | assumption | exact (AH.mp_putM_ne _ _ (by assumption)).trans (by assumption) | (simp only [AH.mp_put, AH.mp_setTok] at *; assumption)))))⟩
      rw [if_pos ⟨by omega, by omega⟩] at hbs
      rcases hbm with ⟨rfl, hb⟩ | ⟨r, rfl, hrP, hb⟩
      · rw [hb] at hbs
        simp only at hbs
        have hneg : (-1 : Int) < 0 := by decide
        simp only [hec, he0, i64s_drop hef, d2, hneg, F_ref_Why, g_ref_Why, go_sem, reduceIte, Nat.reduceEqDiff, Nat.reduceAdd, Nat.reduceMul, Nat.reduceSub, reduceCtorEq, Nat.reduceLeDiff, Nat.reduceLT, Int.reduceLT, Int.reduceLE, Int.reduceToNat, Int.reduceAdd, Int.reduceSub, Int.reduceNeg, Int.reduceMul, Int.reduceEq, ← Bool.decide_and, ← Bool.decide_or, ↓tq_n, ↓tq_e, ↓tq_r, ↓bq_n, ↓bq_e, ↓bq_r, ↓rq_n, ↓rq_r, ↓rq_e]
        exact ⟨by rw [inR64]; omega, (j + 1, (j : Int)), ⟨by simp only; omega, .inr ⟨j, rfl, h5, by rw [hbs, hpe]⟩⟩, by simp only; omega, (GStep.forget (by repeat' first | exact EnvLe.nil _ | refine EnvLe.cons (AV.le.of_eq rfl) ?_ | refine EnvLe.cons (AV.le.undef _) ?_ | refine EnvLe.cons AV.le.unk ?_) (by repeat' first | exact AH.le.refl _ | assumption | (refine AH.le_put ?_ (by first | assumption | exact (AH.blk_put_ne _ _ (by assumption)).trans (by assumption) | exact AH.none_put (by assumption) | exact AH.none_put (AH.none_put (by assumption)) | (simp only [AH.blk_setTok, AH.tok_put] at *; first | assumption | exact AH.none_put (by assumption)))) | (refine AH.le_setTok ?_ (by first | assumption | exact (AH.blk_put_ne _ _ (by assumption)).trans (by assumption) | exact AH.none_put (by assumption) | exact AH.none_put (AH.none_put (by assumption)) | (simp only [AH.blk_setTok, AH.tok_put] at *; first | assumption | exact AH.none_put (by assumption)))) | (refine AH.le_putM ?_ (by first | assumption | exact (AH.mp_putM_ne _ _ (by assumption)).trans (by assumption) | (simp only [AH.mp_put, AH.mp_setTok] at *; assumption)))))⟩
      · rw [hb] at hbs
        simp only at hbs
        have hm0 : ¬ (r : Int) < 0 := by omega
        have hrd := trs_drop (e := R) (i := r) (by omega)
        rw [hRg r hrP] at hrd
        obtain ⟨⟨y1, y2⟩, y3, y4⟩ := g3 _ (mem_getD (d := d3) hrP)
        obtain ⟨z, hz⟩ : ∃ z, z = P.getD r d3 := ⟨_, rfl⟩
        have hbs0 := hbs
        rw [← hz] at hbs y1 y2 y3 y4 hrd
        obtain ⟨s, hs⟩ : ∃ s : Nat, z.2.2 = s := ⟨z.2.2.toNat, by omega⟩
        have hsl : s < l.length := by omega
        have hsf : s < f.length := by omega
        have hsc : (s : Int) < (l.length : Int) := by omega
        have hs0 : (0 : Int) ≤ (s : Int) := by omega
        have sfv : fv f z.2.2 = f.getD s 0 := by unfold fv; rw [hs, Int.toNat_natCast]
        have sid : idA l z.2.2 = (l.getD s dS).id := by unfold idA; rw [hs, Int.toNat_natCast]
        have hps2 := plc_id g2 hsl
        simp only [idT, idA, hs, Int.toNat_natCast] at hrd
        have hrc : (r : Int) < (R.length : Int) := by omega
        have hr0 : (0 : Int) ≤ (r : Int) := by omega
        have hj0 : (0 : Int) ≤ (j : Int) := by omega
        have hbte : btr l f p z ↔ (f.getD e 0 < f.getD s 0 ∨ f.getD e 0 = f.getD s 0 ∧ ((l.getD e dS).id < (l.getD s dS).id ∨ (l.getD e dS).id = (l.getD s dS).id ∧ p.1 < z.1)) := by unfold btr; rw [efv, sfv, eid, sid]
        have hyes : btr l f p z → bsI l f P v (j + 1) j := fun hh => .inr ⟨j, rfl, h5, by rw [hbs, if_pos hh, hpe]⟩
        have hno : ¬ btr l f p z → bsI l f P v (j + 1) r := fun hh => .inr ⟨r, rfl, hrP, by rw [hbs, if_neg hh, hz]⟩
        simp only [hec, he0, i64s_drop hef, d2, hm0, hc5, hdr, F_ref_Why, g_ref_Why, go_sem, reduceIte, Nat.reduceEqDiff, Nat.reduceAdd, Nat.reduceMul, Nat.reduceSub, reduceCtorEq, Nat.reduceLeDiff, Nat.reduceLT, Int.reduceLT, Int.reduceLE, Int.reduceToNat, Int.reduceAdd, Int.reduceSub, Int.reduceNeg, Int.reduceMul, Int.reduceEq, ← Bool.decide_and, ← Bool.decide_or, ↓tq_n, ↓tq_e, ↓tq_r, ↓bq_n, ↓bq_e, ↓bq_r, ↓rq_n, ↓rq_r, ↓rq_e]
        refine CallG.mk (r_ref_place n1 l u1 _ _) ?_
        rw [hpe2]
        simp only [hec, he0, i64s_drop hef, hrc, hr0, hrd, F_ref_Why, g_ref_Why, go_sem, reduceIte, Nat.reduceEqDiff, Nat.reduceAdd, Nat.reduceMul, Nat.reduceSub, reduceCtorEq, Nat.reduceLeDiff, Nat.reduceLT, Int.reduceLT, Int.reduceLE, Int.reduceToNat, Int.reduceAdd, Int.reduceSub, Int.reduceNeg, Int.reduceMul, Int.reduceEq, ← Bool.decide_and, ← Bool.decide_or, ↓tq_n, ↓tq_e, ↓tq_r, ↓bq_n, ↓bq_e, ↓bq_r, ↓rq_n, ↓rq_r, ↓rq_e]
        refine CallG.mk (r_ref_place n1 l u1 _ _) ?_
        rw [hps2]
        by_cases x1 : f.getD e 0 < f.getD s 0
        · simp only [hsc, hs0, i64s_drop hsf, hec, he0, hc5, hdr, hrc, hr0, hrd, x1, F_ref_Why, g_ref_Why, go_sem, reduceIte, Nat.reduceEqDiff, Nat.reduceAdd, Nat.reduceMul, Nat.reduceSub, reduceCtorEq, Nat.reduceLeDiff, Nat.reduceLT, Int.reduceLT, Int.reduceLE, Int.reduceToNat, Int.reduceAdd, Int.reduceSub, Int.reduceNeg, Int.reduceMul, Int.reduceEq, ← Bool.decide_and, ← Bool.decide_or, ↓tq_n, ↓tq_e, ↓tq_r, ↓bq_n, ↓bq_e, ↓bq_r, ↓rq_n, ↓rq_r, ↓rq_e]
          exact ⟨by rw [inR64]; omega, (j + 1, (j : Int)), ⟨by simp only; omega, hyes (hbte.2 (.inl x1))⟩, by simp only; omega, (GStep.forget (by repeat' first | exact EnvLe.nil _ | refine EnvLe.cons (AV.le.of_eq rfl) ?_ | refine EnvLe.cons (AV.le.undef _) ?_ | refine EnvLe.cons AV.le.unk ?_) (by repeat' first | exact AH.le.refl _ | assumption | (refine AH.le_put ?_ (by first | assumption | exact (AH.blk_put_ne _ _ (by assumption)).trans (by assumption) | exact AH.none_put (by assumption) | exact AH.none_put (AH.none_put (by assumption)) | (simp only [AH.blk_setTok, AH.tok_put] at *; first | assumption | exact AH.none_put (by assumption)))) | (refine AH.le_setTok ?_ (by first | assumption | exact (AH.blk_put_ne _ _ (by assumption)).trans (by assumption) | exact AH.none_put (by assumption) | exact AH.none_put (AH.none_put (by assumption)) | (simp only [AH.blk_setTok, AH.tok_put] at *; first | assumption | exact AH.none_put (by assumption)))) | (refine AH.le_putM ?_ (by first | assumption | exact (AH.mp_putM_ne _ _ (by assumption)).trans (by assumption) | (simp only [AH.mp_put, AH.mp_setTok] at *; assumption)))))⟩
        by_cases x2 : f.getD e 0 = f.getD s 0
        case neg =>
          simp only [hsc, hs0, i64s_drop hsf, hec, he0, hc5, hdr, hrc, hr0, hrd, x1, x2, F_ref_Why, g_ref_Why, go_sem, reduceIte, Nat.reduceEqDiff, Nat.reduceAdd, Nat.reduceMul, Nat.reduceSub, reduceCtorEq, Nat.reduceLeDiff, Nat.reduceLT, Int.reduceLT, Int.reduceLE, Int.reduceToNat, Int.reduceAdd, Int.reduceSub, Int.reduceNeg, Int.reduceMul, Int.reduceEq, ← Bool.decide_and, ← Bool.decide_or, ↓tq_n, ↓tq_e, ↓tq_r, ↓bq_n, ↓bq_e, ↓bq_r, ↓rq_n, ↓rq_r, ↓rq_e]
          exact ⟨by rw [inR64]; omega, (j + 1, (r : Int)), ⟨by simp only; omega, hno (fun hh => by rw [hbte] at hh; omega)⟩, by simp only; omega, (GStep.forget (by repeat' first | exact EnvLe.nil _ | refine EnvLe.cons (AV.le.of_eq rfl) ?_ | refine EnvLe.cons (AV.le.undef _) ?_ | refine EnvLe.cons AV.le.unk ?_) (by repeat' first | exact AH.le.refl _ | assumption | (refine AH.le_put ?_ (by first | assumption | exact (AH.blk_put_ne _ _ (by assumption)).trans (by assumption) | exact AH.none_put (by assumption) | exact AH.none_put (AH.none_put (by assumption)) | (simp only [AH.blk_setTok, AH.tok_put] at *; first | assumption | exact AH.none_put (by assumption)))) | (refine AH.le_setTok ?_ (by first | assumption | exact (AH.blk_put_ne _ _ (by assumption)).trans (by assumption) | exact AH.none_put (by assumption) | exact AH.none_put (AH.none_put (by assumption)) | (simp only [AH.blk_setTok, AH.tok_put] at *; first | assumption | exact AH.none_put (by assumption)))) | (refine AH.le_putM ?_ (by first | assumption | exact (AH.mp_putM_ne _ _ (by assumption)).trans (by assumption) | (simp only [AH.mp_put, AH.mp_setTok] at *; assumption)))))⟩
        by_cases x3 : (l.getD e dS).id < (l.getD s dS).id
        · simp only [hsc, hs0, i64s_drop hsf, hec, he0, hc5, hdr, hrc, hr0, hrd, decide_eq_false x1, decide_eq_true x2, x3, F_ref_Why, g_ref_Why, go_sem, reduceIte, Nat.reduceEqDiff, Nat.reduceAdd, Nat.reduceMul, Nat.reduceSub, reduceCtorEq, Nat.reduceLeDiff, Nat.reduceLT, Int.reduceLT, Int.reduceLE, Int.reduceToNat, Int.reduceAdd, Int.reduceSub, Int.reduceNeg, Int.reduceMul, Int.reduceEq, ← Bool.decide_and, ← Bool.decide_or, ↓tq_n, ↓tq_e, ↓tq_r, ↓bq_n, ↓bq_e, ↓bq_r, ↓rq_n, ↓rq_r, ↓rq_e]
          exact ⟨by rw [inR64]; omega, (j + 1, (j : Int)), ⟨by simp only; omega, hyes (hbte.2 (.inr ⟨x2, .inl x3⟩))⟩, by simp only; omega, (GStep.forget (by repeat' first | exact EnvLe.nil _ | refine EnvLe.cons (AV.le.of_eq rfl) ?_ | refine EnvLe.cons (AV.le.undef _) ?_ | refine EnvLe.cons AV.le.unk ?_) (by repeat' first | exact AH.le.refl _ | assumption | (refine AH.le_put ?_ (by first | assumption | exact (AH.blk_put_ne _ _ (by assumption)).trans (by assumption) | exact AH.none_put (by assumption) | exact AH.none_put (AH.none_put (by assumption)) | (simp only [AH.blk_setTok, AH.tok_put] at *; first | assumption | exact AH.none_put (by assumption)))) | (refine AH.le_setTok ?_ (by first | assumption | exact (AH.blk_put_ne _ _ (by assumption)).trans (by assumption) | exact AH.none_put (by assumption) | exact AH.none_put (AH.none_put (by assumption)) | (simp only [AH.blk_setTok, AH.tok_put] at *; first | assumption | exact AH.none_put (by assumption)))) | (refine AH.le_putM ?_ (by first | assumption | exact (AH.mp_putM_ne _ _ (by assumption)).trans (by assumption) | (simp only [AH.mp_put, AH.mp_setTok] at *; assumption)))))⟩
        by_cases x4 : (l.getD e dS).id = (l.getD s dS).id
        case neg =>
          simp only [hsc, hs0, i64s_drop hsf, hec, he0, hc5, hdr, hrc, hr0, hrd, decide_eq_false x1, decide_eq_true x2, x3, x4, F_ref_Why, g_ref_Why, go_sem, reduceIte, Nat.reduceEqDiff, Nat.reduceAdd, Nat.reduceMul, Nat.reduceSub, reduceCtorEq, Nat.reduceLeDiff, Nat.reduceLT, Int.reduceLT, Int.reduceLE, Int.reduceToNat, Int.reduceAdd, Int.reduceSub, Int.reduceNeg, Int.reduceMul, Int.reduceEq, ← Bool.decide_and, ← Bool.decide_or, ↓tq_n, ↓tq_e, ↓tq_r, ↓bq_n, ↓bq_e, ↓bq_r, ↓rq_n, ↓rq_r, ↓rq_e]
          exact ⟨by rw [inR64]; omega, (j + 1, (r : Int)), ⟨by simp only; omega, hno (fun hh => by rw [hbte] at hh; omega)⟩, by simp only; omega, (GStep.forget (by repeat' first | exact EnvLe.nil _ | refine EnvLe.cons (AV.le.of_eq rfl) ?_ | refine EnvLe.cons (AV.le.undef _) ?_ | refine EnvLe.cons AV.le.unk ?_) (by repeat' first | exact AH.le.refl _ | assumption | (refine AH.le_put ?_ (by first | assumption | exact (AH.blk_put_ne _ _ (by assumption)).trans (by assumption) | exact AH.none_put (by assumption) | exact AH.none_put (AH.none_put (by assumption)) | (simp only [AH.blk_setTok, AH.tok_put] at *; first | assumption | exact AH.none_put (by assumption)))) | (refine AH.le_setTok ?_ (by first | assumption | exact (AH.blk_put_ne _ _ (by assumption)).trans (by assumption) | exact AH.none_put (by assumption) | exact AH.none_put (AH.none_put (by assumption)) | (simp only [AH.blk_setTok, AH.tok_put] at *; first | assumption | exact AH.none_put (by assumption)))) | (refine AH.le_putM ?_ (by first | assumption | exact (AH.mp_putM_ne _ _ (by assumption)).trans (by assumption) | (simp only [AH.mp_put, AH.mp_setTok] at *; assumption)))))⟩
        by_cases x5 : p.1 < z.1
        · simp only [hsc, hs0, i64s_drop hsf, hec, he0, hc5, hdr, hrc, hr0, hrd, decide_eq_false x1, decide_eq_true x2, decide_eq_false x3, decide_eq_true x4, x5, F_ref_Why, g_ref_Why, go_sem, reduceIte, Nat.reduceEqDiff, Nat.reduceAdd, Nat.reduceMul, Nat.reduceSub, reduceCtorEq, Nat.reduceLeDiff, Nat.reduceLT, Int.reduceLT, Int.reduceLE, Int.reduceToNat, Int.reduceAdd, Int.reduceSub, Int.reduceNeg, Int.reduceMul, Int.reduceEq, ← Bool.decide_and, ← Bool.decide_or, ↓tq_n, ↓tq_e, ↓tq_r, ↓bq_n, ↓bq_e, ↓bq_r, ↓rq_n, ↓rq_r, ↓rq_e]
          exact ⟨by rw [inR64]; omega, (j + 1, (j : Int)), ⟨by simp only; omega, hyes (hbte.2 (.inr ⟨x2, .inr ⟨x4, x5⟩⟩))⟩, by simp only; omega, (GStep.forget (by repeat' first | exact EnvLe.nil _ | refine EnvLe.cons (AV.le.of_eq rfl) ?_ | refine EnvLe.cons (AV.le.undef _) ?_ | refine EnvLe.cons AV.le.unk ?_) (by repeat' first | exact AH.le.refl _ | assumption | (refine AH.le_put ?_ (by first | assumption | exact (AH.blk_put_ne _ _ (by assumption)).trans (by assumption) | exact AH.none_put (by assumption) | exact AH.none_put (AH.none_put (by assumption)) | (simp only [AH.blk_setTok, AH.tok_put] at *; first | assumption | exact AH.none_put (by assumption)))) | (refine AH.le_setTok ?_ (by first | assumption | exact (AH.blk_put_ne _ _ (by assumption)).trans (by assumption) | exact AH.none_put (by assumption) | exact AH.none_put (AH.none_put (by assumption)) | (simp only [AH.blk_setTok, AH.tok_put] at *; first | assumption | exact AH.none_put (by assumption)))) | (refine AH.le_putM ?_ (by first | assumption | exact (AH.mp_putM_ne _ _ (by assumption)).trans (by assumption) | (simp only [AH.mp_put, AH.mp_setTok] at *; assumption)))))⟩
        · simp only [hsc, hs0, i64s_drop hsf, hec, he0, hc5, hdr, hrc, hr0, hrd, decide_eq_false x1, decide_eq_true x2, decide_eq_false x3, decide_eq_true x4, x5, F_ref_Why, g_ref_Why, go_sem, reduceIte, Nat.reduceEqDiff, Nat.reduceAdd, Nat.reduceMul, Nat.reduceSub, reduceCtorEq, Nat.reduceLeDiff, Nat.reduceLT, Int.reduceLT, Int.reduceLE, Int.reduceToNat, Int.reduceAdd, Int.reduceSub, Int.reduceNeg, Int.reduceMul, Int.reduceEq, ← Bool.decide_and, ← Bool.decide_or, ↓tq_n, ↓tq_e, ↓tq_r, ↓bq_n, ↓bq_e, ↓bq_r, ↓rq_n, ↓rq_r, ↓rq_e]
          exact ⟨by rw [inR64]; omega, (j + 1, (r : Int)), ⟨by simp only; omega, hno (fun hh => by rw [hbte] at hh; omega)⟩, by simp only; omega, (GStep.forget (by repeat' first | exact EnvLe.nil _ | refine EnvLe.cons (AV.le.of_eq rfl) ?_ | refine EnvLe.cons (AV.le.undef _) ?_ | refine EnvLe.cons AV.le.unk ?_) (by repeat' first | exact AH.le.refl _ | assumption | (refine AH.le_put ?_ (by first | assumption | exact (AH.blk_put_ne _ _ (by assumption)).trans (by assumption) | exact AH.none_put (by assumption) | exact AH.none_put (AH.none_put (by assumption)) | (simp only [AH.blk_setTok, AH.tok_put] at *; first | assumption | exact AH.none_put (by assumption)))) | (refine AH.le_setTok ?_ (by first | assumption | exact (AH.blk_put_ne _ _ (by assumption)).trans (by assumption) | exact AH.none_put (by assumption) | exact AH.none_put (AH.none_put (by assumption)) | (simp only [AH.blk_setTok, AH.tok_put] at *; first | assumption | exact AH.none_put (by assumption)))) | (refine AH.le_putM ?_ (by first | assumption | exact (AH.mp_putM_ne _ _ (by assumption)).trans (by assumption) | (simp only [AH.mp_put, AH.mp_setTok] at *; assumption)))))⟩
    have h5 : j = P.length := by omega
    subst h5
    have hxx : ¬ (P.length : Int) < (R.length : Int) := by omega
    rcases hbm with ⟨rfl, hb⟩ | ⟨r, rfl, hrP, hb⟩
    · have hneg : (-1 : Int) < 0 := by decide
      rw [wy_stop g3 hD p2 hvr hstop hb] at hwv
      simp only [hneg, hxx, F_ref_Why, g_ref_Why, go_sem, reduceIte, Nat.reduceEqDiff, Nat.reduceAdd, Nat.reduceMul, Nat.reduceSub, reduceCtorEq, Nat.reduceLeDiff, Nat.reduceLT, Int.reduceLT, Int.reduceLE, Int.reduceToNat, Int.reduceAdd, Int.reduceSub, Int.reduceNeg, Int.reduceMul, Int.reduceEq, ← Bool.decide_and, ← Bool.decide_or, ↓tq_n, ↓tq_e, ↓tq_r, ↓bq_n, ↓bq_e, ↓bq_r, ↓rq_n, ↓rq_r, ↓rq_e]
      refine ret_hb (hlG _) ?_
      rw [hwv]
    · obtain ⟨k', rfl, hw'⟩ := wy_next g3 hD p2 hvr hstop hb
      have hm0 : ¬ (r : Int) < 0 := by omega
      have hrd := trs_drop (e := R) (i := r) (by omega)
      rw [hRg r hrP] at hrd
      have hq := ((bst_spec (l := l) (f := f) (P := P) (at_ := (v : Int)) (j := P.length) (Nat.le_refl _)).1 _ hb)
      obtain ⟨⟨y1, y2⟩, y3, y4⟩ := g3 _ hq.1
      obtain ⟨z, hz⟩ : ∃ z, z = P.getD r d3 := ⟨_, rfl⟩
      rw [← hz] at y1 y2 y3 y4 hrd hw' hq
      obtain ⟨s, hs⟩ : ∃ s : Nat, z.2.2 = s := ⟨z.2.2.toNat, by omega⟩
      have hsl : s < l.length := by omega
      simp only [idT, idA, hs, hq.2.1, Int.toNat_natCast] at hrd hw'
      have hrc : (r : Int) < (R.length : Int) := by omega
      have hr0 : (0 : Int) ≤ (r : Int) := by omega
      have hol : o.length ≤ 100 := by omega
      simp only [hm0, hrc, hr0, hrd, hxx, F_ref_Why, g_ref_Why, go_sem, reduceIte, Nat.reduceEqDiff, Nat.reduceAdd, Nat.reduceMul, Nat.reduceSub, reduceCtorEq, Nat.reduceLeDiff, Nat.reduceLT, Int.reduceLT, Int.reduceLE, Int.reduceToNat, Int.reduceAdd, Int.reduceSub, Int.reduceNeg, Int.reduceMul, Int.reduceEq, ← Bool.decide_and, ← Bool.decide_or, ↓tq_n, ↓tq_e, ↓tq_r, ↓bq_n, ↓bq_e, ↓bq_r, ↓rq_n, ↓rq_r, ↓rq_e]
      refine ⟨by rw [trs_len], by omega, by omega, (o ++ [(z.1, (l.getD v dS).id, (l.getD s dS).id)], s, k'), ⟨hsl, hw'⟩, by simp only; omega, ?_⟩
      simp only [trs_snoc, List.length_append, List.length_singleton]
      exact (GStep.forget (by repeat' first | exact EnvLe.nil _ | refine EnvLe.cons (AV.le.of_eq rfl) ?_ | refine EnvLe.cons (AV.le.undef _) ?_ | refine EnvLe.cons AV.le.unk ?_) (by repeat' first | exact AH.le.refl _ | assumption | (refine AH.le_put ?_ (by first | assumption | exact (AH.blk_put_ne _ _ (by assumption)).trans (by assumption) | exact AH.none_put (by assumption) | exact AH.none_put (AH.none_put (by assumption)) | (simp only [AH.blk_setTok, AH.tok_put] at *; first | assumption | exact AH.none_put (by assumption)))) | (refine AH.le_setTok ?_ (by first | assumption | exact (AH.blk_put_ne _ _ (by assumption)).trans (by assumption) | exact AH.none_put (by assumption) | exact AH.none_put (AH.none_put (by assumption)) | (simp only [AH.blk_setTok, AH.tok_put] at *; first | assumption | exact AH.none_put (by assumption)))) | (refine AH.le_putM ?_ (by first | assumption | exact (AH.mp_putM_ne _ _ (by assumption)).trans (by assumption) | (simp only [AH.mp_put, AH.mp_setTok] at *; assumption)))))
end Go.Proofs.Ytndcbompcnlhmaa
