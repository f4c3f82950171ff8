/- Calls of functions of this seat's program: the standing decisions. No condition. -/
import Derived.Test.YtcnmodnafnadlaaD5
import Derived.Test.YtcnmodnafnadlaaQ8
import Derived.Test.YtcnmodnafnadlaaC4
namespace Go.Proofs.Ytcnmodnafnadlaa
open Go Go.Abs
set_option linter.unusedSimpArgs false
set_option linter.unusedVariables false
set_option maxRecDepth 20000

theorem first_hit (p : Nat → Bool) : ∀ n, (∀ j, j < n → p j = false) ∨ ∃ k, k < n ∧ p k = true ∧ ∀ j, j < k → p j = false := by
  intro n
  induction n with
  | zero => exact .inl fun j hj => absurd hj (Nat.not_lt_zero _)
  | succ n ih =>
    rcases ih with h | ⟨k, h1, h2, h3⟩
    · cases hp : p n with
      | true => exact .inr ⟨n, Nat.lt_succ_self n, hp, h⟩
      | false => exact .inl fun j hj => by rcases Nat.lt_succ_iff_lt_or_eq.1 hj with h' | rfl; exact h j h'; exact hp
    · exact .inr ⟨k, by omega, h2, h3⟩
/-- What is not deleted of the first k. -/
def kpK (p : Dec → Bool) (xs : List Dec) (k : Nat) : List Dec := (xs.take k).filter fun x => !p x
theorem kpK_succ (p : Dec → Bool) {xs : List Dec} {k : Nat} (h : k < xs.length) : kpK p xs (k + 1) = if p (xs.getD k dD) then kpK p xs k else kpK p xs k ++ [xs.getD k dD] := by
  unfold kpK
  rw [take_getD dD h, List.filter_append]
  generalize xs.getD k dD = y
  cases hp : p y <;> simp [hp]
theorem kpK_keep (p : Dec → Bool) {xs : List Dec} : ∀ {k : Nat}, k ≤ xs.length → (∀ j, j < k → p (xs.getD j dD) = false) → kpK p xs k = xs.take k := by
  intro k
  induction k with
  | zero => intro _ _; simp [kpK]
  | succ k ih =>
    intro hk h
    rw [kpK_succ p (by omega), h k (by omega), ih (by omega) (fun j hj => h j (by omega)), take_getD dD (by omega)]
    rfl
theorem kpK_all (p : Dec → Bool) (xs : List Dec) : kpK p xs xs.length = xs.filter fun x => !p x := by unfold kpK; rw [List.take_length]
theorem set_take_at {zs : List Dec} {i : Nat} (v : Dec) (hi : i < zs.length) : (zs.set i v).take (i + 1) = zs.take i ++ [v] := by
  rw [take_getD dD (by rw [List.length_set]; exact hi), List.take_set]
  congr 1
  · rw [List.set_eq_of_length_le (by rw [List.length_take]; omega)]
  · simp [List.getD, hi]
theorem set_dcs {zs : List Dec} : ∀ {i : Nat} (x : Dec), i < zs.length → (((((dcs zs).set (i * 5) (I x.au)).set (i * 5 + 1) (I x.nu)).set (i * 5 + 1 + 1) (I x.ki)).set (i * 5 + 1 + 1 + 1) (I x.a)).set (i * 5 + 1 + 1 + 1 + 1) (I x.b) = dcs (zs.set i x) := by
  induction zs with
  | nil => intro i x h; simp at h
  | cons z zs ih =>
    intro i x h
    have e : dcs (z :: zs) = I z.au :: I z.nu :: I z.ki :: I z.a :: I z.b :: dcs zs := rfl
    cases i with
    | zero => rw [e]; rfl
    | succ i =>
      have h2 : i < zs.length := by simpa using h
      have e2 : dcs (z :: zs.set i x) = I z.au :: I z.nu :: I z.ki :: I z.a :: I z.b :: dcs (zs.set i x) := rfl
      rw [List.set_cons_succ, e, e2, ← ih x h2, show (i + 1) * 5 = i * 5 + 1 + 1 + 1 + 1 + 1 by omega]
      simp only [List.set_cons_succ]
theorem clr_dcs {zs : List Dec} {i : Nat} (h : i ≤ zs.length) : spl (dcs zs) (i * 5) (List.replicate (zs.length - i) [AV.int IntKind.i64 0, AV.int IntKind.i64 0, AV.int IntKind.i64 0, AV.int IntKind.i64 0, AV.int IntKind.i64 0]).flatten = dcs (zs.take i ++ List.replicate (zs.length - i) dD) := by
  have e : (List.replicate (zs.length - i) [AV.int IntKind.i64 0, AV.int IntKind.i64 0, AV.int IntKind.i64 0, AV.int IntKind.i64 0, AV.int IntKind.i64 0]).flatten = dcs (List.replicate (zs.length - i) dD) := by
    unfold dcs
    rw [List.flatMap_def, List.map_replicate]
    rfl
  rw [e, spl_eq _ _ _ (by rw [dcs_len, dcs_len, List.length_replicate]; omega), dcs_append, dcs_take, dcs_len, List.length_replicate, List.drop_of_length_le (by rw [dcs_len]; omega), List.append_nil]
theorem r_slices_IndexFunc_nil (nl : Bool) (tl : Tail) (f : FuncId) (caps : List AV) (h : AH) :
    RCall Try.prog n_slices_IndexFunc_Decision [.sl nl 0 [] tl, .fn f caps] h (I (-1)) := by
  refine RCall.of hm cF_slices_IndexFunc_Decision (by simp [g_slices_IndexFunc_Decision]) fun hw h' hl => ?_
  simp only [F_slices_IndexFunc_Decision, g_slices_IndexFunc_Decision, go_sem, reduceIte, Nat.reduceEqDiff, Nat.reduceAdd, Nat.reduceMul, Nat.reduceSub, reduceCtorEq, Nat.reduceLeDiff, Nat.reduceLT, Int.reduceLT, Int.reduceLE, Int.reduceToNat, Int.reduceAdd, Int.reduceSub, Int.reduceNeg, Int.reduceMul, Int.reduceEq, ← Bool.decide_and, ← Bool.decide_or, ↓tq_n, ↓tq_e, ↓tq_r, ↓bq_n, ↓bq_e, ↓bq_r, ↓rq_n, ↓rq_r, ↓rq_e]
  refine awp_loop (fun i : Nat => [(0, .sl nl 0 [] tl), (1, .fn f caps), (7, I 0), (8, I 0)]) (fun _ => h') (fun i => i = 0) (fun i => 0) 0 rfl (GStep.forget (by repeat' first | exact EnvLe.nil _ | refine EnvLe.cons (AV.le.of_eq rfl) ?_ | refine EnvLe.cons (AV.le.undef _) ?_ | refine EnvLe.cons AV.le.unk ?_) (by repeat' first | exact AH.le.refl _ | assumption | (refine AH.le_put ?_ (by first | assumption | exact (AH.blk_put_ne _ _ (by assumption)).trans (by assumption) | exact AH.none_put (by assumption) | exact AH.none_put (AH.none_put (by assumption)) | (simp only [AH.blk_setTok, AH.tok_put] at *; first | assumption | exact AH.none_put (by assumption)))) | (refine AH.le_setTok ?_ (by first | assumption | exact (AH.blk_put_ne _ _ (by assumption)).trans (by assumption) | exact AH.none_put (by assumption) | exact AH.none_put (AH.none_put (by assumption)) | (simp only [AH.blk_setTok, AH.tok_put] at *; first | assumption | exact AH.none_put (by assumption)))) | (refine AH.le_putM ?_ (by first | assumption | exact (AH.mp_putM_ne _ _ (by assumption)).trans (by assumption) | (simp only [AH.mp_put, AH.mp_setTok] at *; assumption))))) fun i hi => .of_vg hm ?_
  simp only [F_slices_IndexFunc_Decision, g_slices_IndexFunc_Decision, go_sem, reduceIte, Nat.reduceEqDiff, Nat.reduceAdd, Nat.reduceMul, Nat.reduceSub, reduceCtorEq, Nat.reduceLeDiff, Nat.reduceLT, Int.reduceLT, Int.reduceLE, Int.reduceToNat, Int.reduceAdd, Int.reduceSub, Int.reduceNeg, Int.reduceMul, Int.reduceEq, ← Bool.decide_and, ← Bool.decide_or, ↓tq_n, ↓tq_e, ↓tq_r, ↓bq_n, ↓bq_e, ↓bq_r, ↓rq_n, ↓rq_r, ↓rq_e]
  exact ret_ok rfl
theorem r_slices_IndexFunc_mem (b : Nat) (xs : List Dec) (cap : Option Nat) (f : FuncId) (caps : List AV) (p : Dec → Bool) (h : AH) (hb : h.blk b = some (dcs xs)) (hel : xs.length ≤ 1000) (hp : ∀ x ∈ xs, RCall Try.prog f (stD x :: caps) h (.bool (p x))) :
    RCall Try.prog n_slices_IndexFunc_Decision [.msl b 0 xs.length cap, .fn f caps] h (I (findI (fun i => p (xs.getD i dD)) xs.length)) := by
  refine RCall.of hm cF_slices_IndexFunc_Decision (by simp [g_slices_IndexFunc_Decision]) fun hw h' hl => ?_
  have hb := hl.1 _ _ hb
  simp only [F_slices_IndexFunc_Decision, g_slices_IndexFunc_Decision, go_sem, reduceIte, Nat.reduceEqDiff, Nat.reduceAdd, Nat.reduceMul, Nat.reduceSub, reduceCtorEq, Nat.reduceLeDiff, Nat.reduceLT, Int.reduceLT, Int.reduceLE, Int.reduceToNat, Int.reduceAdd, Int.reduceSub, Int.reduceNeg, Int.reduceMul, Int.reduceEq, ← Bool.decide_and, ← Bool.decide_or, ↓tq_n, ↓tq_e, ↓tq_r, ↓bq_n, ↓bq_e, ↓bq_r, ↓rq_n, ↓rq_r, ↓rq_e]
  refine awp_loop (fun i : Nat => [(0, .msl b 0 xs.length cap), (1, .fn f caps), (7, I xs.length), (8, I i)]) (fun _ => h') (fun i => i ≤ xs.length ∧ ∀ j, j < i → p (xs.getD j dD) = false) (fun i => xs.length - i) 0 ⟨by omega, by omega⟩ (GStep.forget (by repeat' first | exact EnvLe.nil _ | refine EnvLe.cons (AV.le.of_eq rfl) ?_ | refine EnvLe.cons (AV.le.undef _) ?_ | refine EnvLe.cons AV.le.unk ?_) (by repeat' first | exact AH.le.refl _ | assumption | (refine AH.le_put ?_ (by first | assumption | exact (AH.blk_put_ne _ _ (by assumption)).trans (by assumption) | exact AH.none_put (by assumption) | exact AH.none_put (AH.none_put (by assumption)) | (simp only [AH.blk_setTok, AH.tok_put] at *; first | assumption | exact AH.none_put (by assumption)))) | (refine AH.le_setTok ?_ (by first | assumption | exact (AH.blk_put_ne _ _ (by assumption)).trans (by assumption) | exact AH.none_put (by assumption) | exact AH.none_put (AH.none_put (by assumption)) | (simp only [AH.blk_setTok, AH.tok_put] at *; first | assumption | exact AH.none_put (by assumption)))) | (refine AH.le_putM ?_ (by first | assumption | exact (AH.mp_putM_ne _ _ (by assumption)).trans (by assumption) | (simp only [AH.mp_put, AH.mp_setTok] at *; assumption))))) fun i hi => .of_vg hm ?_
  obtain ⟨h1, h2⟩ := hi
  by_cases h3 : i < xs.length
  · have hc : (i : Int) < (xs.length : Int) := by omega
    have hi0 : (0 : Int) ≤ (i : Int) := by omega
    simp only [hc, hi0, hb, dcs_drop h3, F_slices_IndexFunc_Decision, g_slices_IndexFunc_Decision, go_sem, reduceIte, Nat.reduceEqDiff, Nat.reduceAdd, Nat.reduceMul, Nat.reduceSub, reduceCtorEq, Nat.reduceLeDiff, Nat.reduceLT, Int.reduceLT, Int.reduceLE, Int.reduceToNat, Int.reduceAdd, Int.reduceSub, Int.reduceNeg, Int.reduceMul, Int.reduceEq, ← Bool.decide_and, ← Bool.decide_or, ↓tq_n, ↓tq_e, ↓tq_r, ↓bq_n, ↓bq_e, ↓bq_r, ↓rq_n, ↓rq_r, ↓rq_e]
    refine CallG.mk ((hp _ (mem_getD h3)).leB hl) ?_
    cases hpi : p (xs.getD i dD)
    · simp only [F_slices_IndexFunc_Decision, g_slices_IndexFunc_Decision, go_sem, reduceIte, Nat.reduceEqDiff, Nat.reduceAdd, Nat.reduceMul, Nat.reduceSub, reduceCtorEq, Nat.reduceLeDiff, Nat.reduceLT, Int.reduceLT, Int.reduceLE, Int.reduceToNat, Int.reduceAdd, Int.reduceSub, Int.reduceNeg, Int.reduceMul, Int.reduceEq, ← Bool.decide_and, ← Bool.decide_or, ↓tq_n, ↓tq_e, ↓tq_r, ↓bq_n, ↓bq_e, ↓bq_r, ↓rq_n, ↓rq_r, ↓rq_e]
      exact ⟨by rw [inR64]; omega, i + 1, ⟨by omega, fun j hj => by rcases Nat.lt_succ_iff_lt_or_eq.1 hj with h | rfl; exact h2 j h; exact hpi⟩, by omega, (GStep.forget (by repeat' first | exact EnvLe.nil _ | refine EnvLe.cons (AV.le.of_eq rfl) ?_ | refine EnvLe.cons (AV.le.undef _) ?_ | refine EnvLe.cons AV.le.unk ?_) (by repeat' first | exact AH.le.refl _ | assumption | (refine AH.le_put ?_ (by first | assumption | exact (AH.blk_put_ne _ _ (by assumption)).trans (by assumption) | exact AH.none_put (by assumption) | exact AH.none_put (AH.none_put (by assumption)) | (simp only [AH.blk_setTok, AH.tok_put] at *; first | assumption | exact AH.none_put (by assumption)))) | (refine AH.le_setTok ?_ (by first | assumption | exact (AH.blk_put_ne _ _ (by assumption)).trans (by assumption) | exact AH.none_put (by assumption) | exact AH.none_put (AH.none_put (by assumption)) | (simp only [AH.blk_setTok, AH.tok_put] at *; first | assumption | exact AH.none_put (by assumption)))) | (refine AH.le_putM ?_ (by first | assumption | exact (AH.mp_putM_ne _ _ (by assumption)).trans (by assumption) | (simp only [AH.mp_put, AH.mp_setTok] at *; assumption)))))⟩
    · simp only [F_slices_IndexFunc_Decision, g_slices_IndexFunc_Decision, go_sem, reduceIte, Nat.reduceEqDiff, Nat.reduceAdd, Nat.reduceMul, Nat.reduceSub, reduceCtorEq, Nat.reduceLeDiff, Nat.reduceLT, Int.reduceLT, Int.reduceLE, Int.reduceToNat, Int.reduceAdd, Int.reduceSub, Int.reduceNeg, Int.reduceMul, Int.reduceEq, ← Bool.decide_and, ← Bool.decide_or, ↓tq_n, ↓tq_e, ↓tq_r, ↓bq_n, ↓bq_e, ↓bq_r, ↓rq_n, ↓rq_r, ↓rq_e]
      refine ret_hb (by repeat' first | exact AH.le.refl _ | assumption | (refine AH.le_put ?_ (by first | assumption | exact (AH.blk_put_ne _ _ (by assumption)).trans (by assumption) | exact AH.none_put (by assumption) | exact AH.none_put (AH.none_put (by assumption)) | (simp only [AH.blk_setTok, AH.tok_put] at *; first | assumption | exact AH.none_put (by assumption)))) | (refine AH.le_setTok ?_ (by first | assumption | exact (AH.blk_put_ne _ _ (by assumption)).trans (by assumption) | exact AH.none_put (by assumption) | exact AH.none_put (AH.none_put (by assumption)) | (simp only [AH.blk_setTok, AH.tok_put] at *; first | assumption | exact AH.none_put (by assumption)))) | (refine AH.le_putM ?_ (by first | assumption | exact (AH.mp_putM_ne _ _ (by assumption)).trans (by assumption) | (simp only [AH.mp_put, AH.mp_setTok] at *; assumption)))) ?_
      rw [findI_at (p := fun i => p (xs.getD i dD)) hpi h2 h3]
  · have h3 : i = xs.length := by omega
    subst h3
    simp only [F_slices_IndexFunc_Decision, g_slices_IndexFunc_Decision, go_sem, reduceIte, Nat.reduceEqDiff, Nat.reduceAdd, Nat.reduceMul, Nat.reduceSub, reduceCtorEq, Nat.reduceLeDiff, Nat.reduceLT, Int.reduceLT, Int.reduceLE, Int.reduceToNat, Int.reduceAdd, Int.reduceSub, Int.reduceNeg, Int.reduceMul, Int.reduceEq, ← Bool.decide_and, ← Bool.decide_or, ↓tq_n, ↓tq_e, ↓tq_r, ↓bq_n, ↓bq_e, ↓bq_r, ↓rq_n, ↓rq_r, ↓rq_e]
    refine ret_hb (by repeat' first | exact AH.le.refl _ | assumption | (refine AH.le_put ?_ (by first | assumption | exact (AH.blk_put_ne _ _ (by assumption)).trans (by assumption) | exact AH.none_put (by assumption) | exact AH.none_put (AH.none_put (by assumption)) | (simp only [AH.blk_setTok, AH.tok_put] at *; first | assumption | exact AH.none_put (by assumption)))) | (refine AH.le_setTok ?_ (by first | assumption | exact (AH.blk_put_ne _ _ (by assumption)).trans (by assumption) | exact AH.none_put (by assumption) | exact AH.none_put (AH.none_put (by assumption)) | (simp only [AH.blk_setTok, AH.tok_put] at *; first | assumption | exact AH.none_put (by assumption)))) | (refine AH.le_putM ?_ (by first | assumption | exact (AH.mp_putM_ne _ _ (by assumption)).trans (by assumption) | (simp only [AH.mp_put, AH.mp_setTok] at *; assumption)))) ?_
    rw [findI_neg (p := fun i => p (xs.getD i dD)) h2]
set_option maxHeartbeats 4000000 in
theorem s_slices_DeleteFunc (xs : List Dec) (p : Dec → Bool) (f : FuncId) (caps : List AV) (b q : Nat) (h : AH) (hb : h.blk b = some (dcs xs)) (hq : xs.length ≤ q) (hx1 : xs.length ≤ 1000)
    (hp : ∀ x ∈ xs, ∀ cs, RCall Try.prog f (stD x :: caps) (h.put b cs) (.bool (p x))) :
    ACalls Try.prog n_slices_DeleteFunc_Decision [.msl b 0 xs.length (some q), .fn f caps] h fun r g => ∃ zs : List Dec, zs.take (xs.filter fun x => !p x).length = (xs.filter fun x => !p x) ∧ r = .msl b 0 (xs.filter fun x => !p x).length (some q) ∧ g = h.put b (dcs zs) := by
  refine ACalls.of hm cF_slices_DeleteFunc_Decision (by simp [g_slices_DeleteFunc_Decision]) fun hw => ?_
  have hself : h.put b (dcs xs) = h := AH.put_same hb
  obtain ⟨P, hP⟩ : ∃ P : Nat → Bool, P = fun i => p (xs.getD i dD) := ⟨_, rfl⟩
  have hix := r_slices_IndexFunc_mem b xs (some q) f caps p h hb hx1 (fun x hx => by
    have := hp x hx (dcs xs)
    rwa [hself] at this)
  rw [← hP] at hix
  rw [← kpK_all p xs]
  simp only [F_slices_DeleteFunc_Decision, g_slices_DeleteFunc_Decision, go_sem, reduceIte, Nat.reduceEqDiff, Nat.reduceAdd, Nat.reduceMul, Nat.reduceSub, reduceCtorEq, Nat.reduceLeDiff, Nat.reduceLT, Int.reduceLT, Int.reduceLE, Int.reduceToNat, Int.reduceAdd, Int.reduceSub, Int.reduceNeg, Int.reduceMul, Int.reduceEq, ← Bool.decide_and, ← Bool.decide_or, ↓tq_n, ↓tq_e, ↓tq_r, ↓bq_n, ↓bq_e, ↓bq_r, ↓rq_n, ↓rq_r, ↓rq_e]
  refine CallG.mk hix ?_
  rcases first_hit P xs.length with hno | ⟨k, k1, k2, k3⟩
  · rw [findI_neg hno]
    have hr : kpK p xs xs.length = xs := by
      rw [kpK_keep p (Nat.le_refl _) (fun j hj => by have := hno j hj; rw [hP] at this; exact this), List.take_length]
    simp only [F_slices_DeleteFunc_Decision, g_slices_DeleteFunc_Decision, go_sem, reduceIte, Nat.reduceEqDiff, Nat.reduceAdd, Nat.reduceMul, Nat.reduceSub, reduceCtorEq, Nat.reduceLeDiff, Nat.reduceLT, Int.reduceLT, Int.reduceLE, Int.reduceToNat, Int.reduceAdd, Int.reduceSub, Int.reduceNeg, Int.reduceMul, Int.reduceEq, ← Bool.decide_and, ← Bool.decide_or, ↓tq_n, ↓tq_e, ↓tq_r, ↓bq_n, ↓bq_e, ↓bq_r, ↓rq_n, ↓rq_r, ↓rq_e]
    exact ⟨_, _, .refl _ _, xs, by rw [hr, List.take_length], by rw [hr], hself.symm⟩
  rw [findI_at k2 k3 k1]
  have hkk : kpK p xs (k + 1) = xs.take k := by
    have h2 : p (xs.getD k dD) = true := by rw [hP] at k2; exact k2
    rw [kpK_succ p k1, h2, if_pos rfl, kpK_keep p (by omega) (fun j hj => by have := k3 j hj; rw [hP] at this; exact this)]
  have hkn : ¬ (k : Int) = -1 := by omega
  simp only [hkn, F_slices_DeleteFunc_Decision, g_slices_DeleteFunc_Decision, go_sem, reduceIte, Nat.reduceEqDiff, Nat.reduceAdd, Nat.reduceMul, Nat.reduceSub, reduceCtorEq, Nat.reduceLeDiff, Nat.reduceLT, Int.reduceLT, Int.reduceLE, Int.reduceToNat, Int.reduceAdd, Int.reduceSub, Int.reduceNeg, Int.reduceMul, Int.reduceEq, ← Bool.decide_and, ← Bool.decide_or, ↓tq_n, ↓tq_e, ↓tq_r, ↓bq_n, ↓bq_e, ↓bq_r, ↓rq_n, ↓rq_r, ↓rq_e]
  refine ⟨by rw [inR64]; omega, ?_⟩
  refine awp_loop (α := Nat × List Dec) (fun y => [(0, .msl b 0 xs.length (some q)), (1, .fn f caps), (5, I (kpK p xs y.1).length), (6, I y.1)]) (fun y => h.put b (dcs y.2)) (fun y => k < y.1 ∧ y.1 ≤ xs.length ∧ (kpK p xs y.1).length < y.1 ∧ y.2.length = xs.length ∧ y.2.take (kpK p xs y.1).length = kpK p xs y.1 ∧ y.2.drop y.1 = xs.drop y.1) (fun y => xs.length - y.1) (k + 1, xs) ⟨by simp only; omega, by simp only; omega, by simp only [hkk, List.length_take]; omega, rfl, by simp only [hkk, List.length_take]; rw [Nat.min_eq_left (by omega)], rfl⟩ ?_ fun y hy => .of_vg hm ?_
  · simp only [hkk, List.length_take, Nat.min_eq_left (show k ≤ xs.length by omega), hself]
    exact (GStep.forget (by repeat' first | exact EnvLe.nil _ | refine EnvLe.cons (AV.le.of_eq rfl) ?_ | refine EnvLe.cons (AV.le.undef _) ?_ | refine EnvLe.cons AV.le.unk ?_) (by repeat' first | exact AH.le.refl _ | assumption | (refine AH.le_put ?_ (by first | assumption | exact (AH.blk_put_ne _ _ (by assumption)).trans (by assumption) | exact AH.none_put (by assumption) | exact AH.none_put (AH.none_put (by assumption)) | (simp only [AH.blk_setTok, AH.tok_put] at *; first | assumption | exact AH.none_put (by assumption)))) | (refine AH.le_setTok ?_ (by first | assumption | exact (AH.blk_put_ne _ _ (by assumption)).trans (by assumption) | exact AH.none_put (by assumption) | exact AH.none_put (AH.none_put (by assumption)) | (simp only [AH.blk_setTok, AH.tok_put] at *; first | assumption | exact AH.none_put (by assumption)))) | (refine AH.le_putM ?_ (by first | assumption | exact (AH.mp_putM_ne _ _ (by assumption)).trans (by assumption) | (simp only [AH.mp_put, AH.mp_setTok] at *; assumption)))))
  obtain ⟨j, zs⟩ := y
  obtain ⟨y1, y2, y3, y4, y5, y6⟩ := hy
  simp only at y1 y2 y3 y4 y5 y6
  by_cases h3 : j < xs.length
  · have hc : (j : Int) < (xs.length : Int) := by omega
    have hj0 : (0 : Int) ≤ (j : Int) := by omega
    have hsucc := kpK_succ p h3
    have hzj : zs.getD j dD = xs.getD j dD := by
      have e1 := getD_drop zs dD (show j < zs.length by omega)
      have e2 := getD_drop xs dD h3
      rw [y6, e2] at e1
      injection e1 with e3 e4
      exact e3.symm
    have hjz : j < zs.length := by omega
    have hdz := dcs_drop hjz
    rw [hzj] at hdz
    simp only [hc, hj0, hdz, F_slices_DeleteFunc_Decision, g_slices_DeleteFunc_Decision, go_sem, reduceIte, Nat.reduceEqDiff, Nat.reduceAdd, Nat.reduceMul, Nat.reduceSub, reduceCtorEq, Nat.reduceLeDiff, Nat.reduceLT, Int.reduceLT, Int.reduceLE, Int.reduceToNat, Int.reduceAdd, Int.reduceSub, Int.reduceNeg, Int.reduceMul, Int.reduceEq, ← Bool.decide_and, ← Bool.decide_or, ↓tq_n, ↓tq_e, ↓tq_r, ↓bq_n, ↓bq_e, ↓bq_r, ↓rq_n, ↓rq_r, ↓rq_e]
    refine CallG.mk (hp _ (mem_getD h3) _) ?_
    cases hin : p (xs.getD j dD) with
    | true =>
      rw [hin, if_pos rfl] at hsucc
      simp only [F_slices_DeleteFunc_Decision, g_slices_DeleteFunc_Decision, go_sem, reduceIte, Nat.reduceEqDiff, Nat.reduceAdd, Nat.reduceMul, Nat.reduceSub, reduceCtorEq, Nat.reduceLeDiff, Nat.reduceLT, Int.reduceLT, Int.reduceLE, Int.reduceToNat, Int.reduceAdd, Int.reduceSub, Int.reduceNeg, Int.reduceMul, Int.reduceEq, ← Bool.decide_and, ← Bool.decide_or, ↓tq_n, ↓tq_e, ↓tq_r, ↓bq_n, ↓bq_e, ↓bq_r, ↓rq_n, ↓rq_r, ↓rq_e]
      refine ⟨by rw [inR64]; omega, (j + 1, zs), ⟨by simp only; omega, by simp only; omega, by simp only [hsucc]; omega, y4, by simp only [hsucc]; exact y5, ?_⟩, by simp only; omega, ?_⟩
      · simp only
        rw [← List.drop_drop, ← List.drop_drop, y6]
      · simp only [hsucc]
        exact (GStep.forget (by repeat' first | exact EnvLe.nil _ | refine EnvLe.cons (AV.le.of_eq rfl) ?_ | refine EnvLe.cons (AV.le.undef _) ?_ | refine EnvLe.cons AV.le.unk ?_) (by repeat' first | exact AH.le.refl _ | assumption | (refine AH.le_put ?_ (by first | assumption | exact (AH.blk_put_ne _ _ (by assumption)).trans (by assumption) | exact AH.none_put (by assumption) | exact AH.none_put (AH.none_put (by assumption)) | (simp only [AH.blk_setTok, AH.tok_put] at *; first | assumption | exact AH.none_put (by assumption)))) | (refine AH.le_setTok ?_ (by first | assumption | exact (AH.blk_put_ne _ _ (by assumption)).trans (by assumption) | exact AH.none_put (by assumption) | exact AH.none_put (AH.none_put (by assumption)) | (simp only [AH.blk_setTok, AH.tok_put] at *; first | assumption | exact AH.none_put (by assumption)))) | (refine AH.le_putM ?_ (by first | assumption | exact (AH.mp_putM_ne _ _ (by assumption)).trans (by assumption) | (simp only [AH.mp_put, AH.mp_setTok] at *; assumption)))))
    | false =>
      rw [hin, if_neg (by decide)] at hsucc
      obtain ⟨i, hi⟩ : ∃ i, i = (kpK p xs j).length := ⟨_, rfl⟩
      rw [← hi] at y3 y5 ⊢
      have hci : (i : Int) < (xs.length : Int) := by omega
      have hi0 : (0 : Int) ≤ (i : Int) := by omega
      have hil : i * 5 + 5 ≤ (dcs zs).length := by rw [dcs_len]; omega
      have hset := set_dcs (zs := zs) (xs.getD j dD) (show i < zs.length by omega)
      simp only [hci, hi0, hil, F_slices_DeleteFunc_Decision, g_slices_DeleteFunc_Decision, go_sem, reduceIte, Nat.reduceEqDiff, Nat.reduceAdd, Nat.reduceMul, Nat.reduceSub, reduceCtorEq, Nat.reduceLeDiff, Nat.reduceLT, Int.reduceLT, Int.reduceLE, Int.reduceToNat, Int.reduceAdd, Int.reduceSub, Int.reduceNeg, Int.reduceMul, Int.reduceEq, ← Bool.decide_and, ← Bool.decide_or, ↓tq_n, ↓tq_e, ↓tq_r, ↓bq_n, ↓bq_e, ↓bq_r, ↓rq_n, ↓rq_r, ↓rq_e]
      rw [hset]
      have hl2 : (kpK p xs (j + 1)).length = i + 1 := by rw [hsucc, List.length_append, ← hi]; rfl
      refine ⟨by rw [inR64]; omega, by rw [inR64]; omega, (j + 1, zs.set i (xs.getD j dD)), ⟨by simp only; omega, by simp only; omega, by simp only [hl2]; omega, by simp only [List.length_set]; exact y4, ?_, ?_⟩, by simp only; omega, ?_⟩
      · simp only [hl2]
        rw [set_take_at _ (by omega), y5, hsucc]
      · simp only
        rw [List.drop_set_of_lt (by omega), ← List.drop_drop, ← List.drop_drop, y6]
      · simp only [hl2]
        exact (GStep.forget (by repeat' first | exact EnvLe.nil _ | refine EnvLe.cons (AV.le.of_eq rfl) ?_ | refine EnvLe.cons (AV.le.undef _) ?_ | refine EnvLe.cons AV.le.unk ?_) (by repeat' first | exact AH.le.refl _ | assumption | (refine AH.le_put ?_ (by first | assumption | exact (AH.blk_put_ne _ _ (by assumption)).trans (by assumption) | exact AH.none_put (by assumption) | exact AH.none_put (AH.none_put (by assumption)) | (simp only [AH.blk_setTok, AH.tok_put] at *; first | assumption | exact AH.none_put (by assumption)))) | (refine AH.le_setTok ?_ (by first | assumption | exact (AH.blk_put_ne _ _ (by assumption)).trans (by assumption) | exact AH.none_put (by assumption) | exact AH.none_put (AH.none_put (by assumption)) | (simp only [AH.blk_setTok, AH.tok_put] at *; first | assumption | exact AH.none_put (by assumption)))) | (refine AH.le_putM ?_ (by first | assumption | exact (AH.mp_putM_ne _ _ (by assumption)).trans (by assumption) | (simp only [AH.mp_put, AH.mp_setTok] at *; assumption)))))
  have h3 : j = xs.length := by omega
  subst h3
  obtain ⟨i, hi⟩ : ∃ i, i = (kpK p xs xs.length).length := ⟨_, rfl⟩
  rw [← hi] at y3 y5 ⊢
  simp only [mslCut_lt (show i < q by omega), F_slices_DeleteFunc_Decision, g_slices_DeleteFunc_Decision, go_sem, reduceIte, Nat.reduceEqDiff, Nat.reduceAdd, Nat.reduceMul, Nat.reduceSub, reduceCtorEq, Nat.reduceLeDiff, Nat.reduceLT, Int.reduceLT, Int.reduceLE, Int.reduceToNat, Int.reduceAdd, Int.reduceSub, Int.reduceNeg, Int.reduceMul, Int.reduceEq, ← Bool.decide_and, ← Bool.decide_or, ↓tq_n, ↓tq_e, ↓tq_r, ↓bq_n, ↓bq_e, ↓bq_r, ↓rq_n, ↓rq_r, ↓rq_e]
  rw [← y4, clr_dcs (by omega)]
  exact ⟨by omega, by omega, by rw [dcs_len]; omega, by omega, Nat.zero_le _, _, _, .refl _ _, zs.take i ++ List.replicate (zs.length - i) dD, by rw [List.take_append_of_le_length (by rw [List.length_take]; omega), List.take_take, Nat.min_self, y4]; exact y5, rfl, rfl⟩
/-- What stands. -/
def stL (s : St) : List Dec := (srtD s.1).filter fun d => !decide (d.mk2 ∈ s.2)
theorem r_decision_Ledger_Standing_1 (d : Dec) (lb b1 b2 : Nat) (s : St) (h : AH) (k : Led h lb b1 b2 s) : RCall Try.prog n_decision_Ledger_Standing_1 [stD d, .sptr [.ptr lb 0]] h (.bool (decide (d.mk2 ∈ s.2))) := by
  refine RCall.of hm cF_decision_Ledger_Standing_1 (by simp [g_decision_Ledger_Standing_1]) fun hw h' hl => ?_
  have k := k.mono hl
  have hb := k.blk
  have h2 := k.m2
  have hf := find_enM d.mk2 s.2
  simp only [Dec.cs, hb, h2, F_decision_Ledger_Standing_1, g_decision_Ledger_Standing_1, go_sem, reduceIte, Nat.reduceEqDiff, Nat.reduceAdd, Nat.reduceMul, Nat.reduceSub, reduceCtorEq, Nat.reduceLeDiff, Nat.reduceLT, Int.reduceLT, Int.reduceLE, Int.reduceToNat, Int.reduceAdd, Int.reduceSub, Int.reduceNeg, Int.reduceMul, Int.reduceEq, ← Bool.decide_and, ← Bool.decide_or, ↓tq_n, ↓tq_e, ↓tq_r, ↓bq_n, ↓bq_e, ↓bq_r, ↓rq_n, ↓rq_r, ↓rq_e]
  refine CallG.mk (r_decision_mark d _) ?_
  simp only [hb, h2, F_decision_Ledger_Standing_1, g_decision_Ledger_Standing_1, go_sem, reduceIte, Nat.reduceEqDiff, Nat.reduceAdd, Nat.reduceMul, Nat.reduceSub, reduceCtorEq, Nat.reduceLeDiff, Nat.reduceLT, Int.reduceLT, Int.reduceLE, Int.reduceToNat, Int.reduceAdd, Int.reduceSub, Int.reduceNeg, Int.reduceMul, Int.reduceEq, ← Bool.decide_and, ← Bool.decide_or, ↓tq_n, ↓tq_e, ↓tq_r, ↓bq_n, ↓bq_e, ↓bq_r, ↓rq_n, ↓rq_r, ↓rq_e]
  refine FindG.mk hf ?_
  by_cases c : d.mk2 ∈ s.2
  · rw [if_pos c]
    simp only [Option.getD_some, F_decision_Ledger_Standing_1, g_decision_Ledger_Standing_1, go_sem, reduceIte, Nat.reduceEqDiff, Nat.reduceAdd, Nat.reduceMul, Nat.reduceSub, reduceCtorEq, Nat.reduceLeDiff, Nat.reduceLT, Int.reduceLT, Int.reduceLE, Int.reduceToNat, Int.reduceAdd, Int.reduceSub, Int.reduceNeg, Int.reduceMul, Int.reduceEq, ← Bool.decide_and, ← Bool.decide_or, ↓tq_n, ↓tq_e, ↓tq_r, ↓bq_n, ↓bq_e, ↓bq_r, ↓rq_n, ↓rq_r, ↓rq_e]
    exact ret_ok (by rw [decide_eq_true c])
  · rw [if_neg c]
    simp only [Option.getD_none, F_decision_Ledger_Standing_1, g_decision_Ledger_Standing_1, go_sem, reduceIte, Nat.reduceEqDiff, Nat.reduceAdd, Nat.reduceMul, Nat.reduceSub, reduceCtorEq, Nat.reduceLeDiff, Nat.reduceLT, Int.reduceLT, Int.reduceLE, Int.reduceToNat, Int.reduceAdd, Int.reduceSub, Int.reduceNeg, Int.reduceMul, Int.reduceEq, ← Bool.decide_and, ← Bool.decide_or, ↓tq_n, ↓tq_e, ↓tq_r, ↓bq_n, ↓bq_e, ↓bq_r, ↓rq_n, ↓rq_r, ↓rq_e]
    exact ret_ok (by rw [decide_eq_false c])
theorem s_decision_Ledger_Made (lb b1 b2 : Nat) (s : St) (ok : OKs s) (h : AH) (k : Led h lb b1 b2 s) : ACalls Try.prog n_decision_Ledger_MadeW [.ptr lb 0] h fun r g => (srtD s.1 = [] ∧ r = .sl true 0 [] .unk ∧ g = h) ∨ (srtD s.1 ≠ [] ∧ ∃ b cap, h.blk b = none ∧ (srtD s.1).length ≤ cap ∧ r = .msl b 0 (srtD s.1).length (some cap) ∧ g = h.put b (dcs (srtD s.1))) := by
  refine ACalls.of hm cF_decision_Ledger_MadeW (by simp [g_decision_Ledger_MadeW]) fun hw => ?_
  have hb := k.blk
  simp only [hb, F_decision_Ledger_MadeW, g_decision_Ledger_MadeW, go_sem, reduceIte, Nat.reduceEqDiff, Nat.reduceAdd, Nat.reduceMul, Nat.reduceSub, reduceCtorEq, Nat.reduceLeDiff, Nat.reduceLT, Int.reduceLT, Int.reduceLE, Int.reduceToNat, Int.reduceAdd, Int.reduceSub, Int.reduceNeg, Int.reduceMul, Int.reduceEq, ← Bool.decide_and, ← Bool.decide_or, ↓tq_n, ↓tq_e, ↓tq_r, ↓bq_n, ↓bq_e, ↓bq_r, ↓rq_n, ↓rq_r, ↓rq_e]
  refine CallG.mk (r_maps_Values b1 _) ?_
  simp only [F_decision_Ledger_MadeW, g_decision_Ledger_MadeW, go_sem, reduceIte, Nat.reduceEqDiff, Nat.reduceAdd, Nat.reduceMul, Nat.reduceSub, reduceCtorEq, Nat.reduceLeDiff, Nat.reduceLT, Int.reduceLT, Int.reduceLE, Int.reduceToNat, Int.reduceAdd, Int.reduceSub, Int.reduceNeg, Int.reduceMul, Int.reduceEq, ← Bool.decide_and, ← Bool.decide_or, ↓tq_n, ↓tq_e, ↓tq_r, ↓bq_n, ↓bq_e, ↓bq_r, ↓rq_n, ↓rq_r, ↓rq_e]
  refine CallS.mk (s_slices_SortedFunc5 b1 (enD s.1) (srtD s.1) s.1 _ k.m1 (by simp [enD, stD, Function.comp_def]) (srtD_perm s.1).symm (asc_ltD (srtD_asc ok.dst)) (by rw [srtD_len]; have := ok.few.1; omega)) fun r H' hr => ?_
  rcases hr with ⟨a1, rfl, rfl⟩ | ⟨a1, b, cap, a2, a3, rfl, rfl⟩
  · simp only [F_decision_Ledger_MadeW, g_decision_Ledger_MadeW, go_sem, reduceIte, Nat.reduceEqDiff, Nat.reduceAdd, Nat.reduceMul, Nat.reduceSub, reduceCtorEq, Nat.reduceLeDiff, Nat.reduceLT, Int.reduceLT, Int.reduceLE, Int.reduceToNat, Int.reduceAdd, Int.reduceSub, Int.reduceNeg, Int.reduceMul, Int.reduceEq, ← Bool.decide_and, ← Bool.decide_or, ↓tq_n, ↓tq_e, ↓tq_r, ↓bq_n, ↓bq_e, ↓bq_r, ↓rq_n, ↓rq_r, ↓rq_e]
    exact ⟨_, _, .refl _ _, .inl ⟨a1, rfl, rfl⟩⟩
  · simp only [F_decision_Ledger_MadeW, g_decision_Ledger_MadeW, go_sem, reduceIte, Nat.reduceEqDiff, Nat.reduceAdd, Nat.reduceMul, Nat.reduceSub, reduceCtorEq, Nat.reduceLeDiff, Nat.reduceLT, Int.reduceLT, Int.reduceLE, Int.reduceToNat, Int.reduceAdd, Int.reduceSub, Int.reduceNeg, Int.reduceMul, Int.reduceEq, ← Bool.decide_and, ← Bool.decide_or, ↓tq_n, ↓tq_e, ↓tq_r, ↓bq_n, ↓bq_e, ↓bq_r, ↓rq_n, ↓rq_r, ↓rq_e]
    exact ⟨_, _, .refl _ _, .inr ⟨a1, b, cap, a2, a3, rfl, rfl⟩⟩
theorem s_slices_DeleteFunc_nil (f : FuncId) (caps : List AV) (h : AH) :
    ACalls Try.prog n_slices_DeleteFunc_Decision [.sl true 0 [] .unk, .fn f caps] h fun r g => r = .sl true 0 [] .unk ∧ g = h := by
  refine ACalls.of hm cF_slices_DeleteFunc_Decision (by simp [g_slices_DeleteFunc_Decision]) fun hw => ?_
  simp only [F_slices_DeleteFunc_Decision, g_slices_DeleteFunc_Decision, go_sem, reduceIte, Nat.reduceEqDiff, Nat.reduceAdd, Nat.reduceMul, Nat.reduceSub, reduceCtorEq, Nat.reduceLeDiff, Nat.reduceLT, Int.reduceLT, Int.reduceLE, Int.reduceToNat, Int.reduceAdd, Int.reduceSub, Int.reduceNeg, Int.reduceMul, Int.reduceEq, ← Bool.decide_and, ← Bool.decide_or, ↓tq_n, ↓tq_e, ↓tq_r, ↓bq_n, ↓bq_e, ↓bq_r, ↓rq_n, ↓rq_r, ↓rq_e]
  refine CallG.mk (r_slices_IndexFunc_nil true .unk f caps _) ?_
  simp only [F_slices_DeleteFunc_Decision, g_slices_DeleteFunc_Decision, go_sem, reduceIte, Nat.reduceEqDiff, Nat.reduceAdd, Nat.reduceMul, Nat.reduceSub, reduceCtorEq, Nat.reduceLeDiff, Nat.reduceLT, Int.reduceLT, Int.reduceLE, Int.reduceToNat, Int.reduceAdd, Int.reduceSub, Int.reduceNeg, Int.reduceMul, Int.reduceEq, ← Bool.decide_and, ← Bool.decide_or, ↓tq_n, ↓tq_e, ↓tq_r, ↓bq_n, ↓bq_e, ↓bq_r, ↓rq_n, ↓rq_r, ↓rq_e]
  exact ⟨_, _, .refl _ _, rfl, rfl⟩
theorem Led.put {h : AH} {lb b1 b2 b : Nat} {s : St} (k : Led h lb b1 b2 s) (hn : lb ≠ b) (cs : List AV) : Led (h.put b cs) lb b1 b2 s :=
  ⟨(AH.blk_put_ne _ _ hn).trans k.blk, k.m1, k.m2, k.ne⟩
theorem Led.fresh {h : AH} {lb b1 b2 b : Nat} {s : St} (k : Led h lb b1 b2 s) (hb : h.blk b = none) : lb ≠ b := fun e => by
  have := k.blk
  rw [e, hb] at this; cases this
theorem le_del {h0 H : AH} {b : Nat} (h : h0.le H) (hb : h0.blk b = none) : h0.le (H.del b) := by
  refine ⟨fun c cs e => ?_, h.tok, h.mp⟩
  have hcb : c ≠ b := fun hh => by subst hh; rw [hb] at e; cases e
  simp only [AH.del]
  rw [if_neg hcb]
  exact h.blk c cs e
def stV (s : St) : AV := .sl (decide (srtD s.1 = [])) (stL s).length (dcs (stL s)) .unk
theorem r_decision_Ledger_Standing (lb b1 b2 : Nat) (s : St) (ok : OKs s) (h : AH) (k : Led h lb b1 b2 s) : RCall Try.prog n_decision_Ledger_StandingW [.ptr lb 0] h (stV s) := by
  refine RCall.of hm cF_decision_Ledger_StandingW (by simp [g_decision_Ledger_StandingW]) fun hw h' hl => ?_
  have k := k.mono hl
  simp only [F_decision_Ledger_StandingW, g_decision_Ledger_StandingW, go_sem, reduceIte, Nat.reduceEqDiff, Nat.reduceAdd, Nat.reduceMul, Nat.reduceSub, reduceCtorEq, Nat.reduceLeDiff, Nat.reduceLT, Int.reduceLT, Int.reduceLE, Int.reduceToNat, Int.reduceAdd, Int.reduceSub, Int.reduceNeg, Int.reduceMul, Int.reduceEq, ← Bool.decide_and, ← Bool.decide_or, ↓tq_n, ↓tq_e, ↓tq_r, ↓bq_n, ↓bq_e, ↓bq_r, ↓rq_n, ↓rq_r, ↓rq_e]
  refine CallS.mk (s_decision_Ledger_Made lb b1 b2 s ok _ k) fun r H' hr => ?_
  rcases hr with ⟨a1, rfl, rfl⟩ | ⟨a1, b, cap, a2, a3, rfl, rfl⟩
  · simp only [F_decision_Ledger_StandingW, g_decision_Ledger_StandingW, go_sem, reduceIte, Nat.reduceEqDiff, Nat.reduceAdd, Nat.reduceMul, Nat.reduceSub, reduceCtorEq, Nat.reduceLeDiff, Nat.reduceLT, Int.reduceLT, Int.reduceLE, Int.reduceToNat, Int.reduceAdd, Int.reduceSub, Int.reduceNeg, Int.reduceMul, Int.reduceEq, ← Bool.decide_and, ← Bool.decide_or, ↓tq_n, ↓tq_e, ↓tq_r, ↓bq_n, ↓bq_e, ↓bq_r, ↓rq_n, ↓rq_r, ↓rq_e]
    refine CallS.mk (s_slices_DeleteFunc_nil 49 [.sptr [.ptr lb 0]] _) fun r H' hr => ?_
    obtain ⟨rfl, rfl⟩ := hr
    simp only [F_decision_Ledger_StandingW, g_decision_Ledger_StandingW, go_sem, reduceIte, Nat.reduceEqDiff, Nat.reduceAdd, Nat.reduceMul, Nat.reduceSub, reduceCtorEq, Nat.reduceLeDiff, Nat.reduceLT, Int.reduceLT, Int.reduceLE, Int.reduceToNat, Int.reduceAdd, Int.reduceSub, Int.reduceNeg, Int.reduceMul, Int.reduceEq, ← Bool.decide_and, ← Bool.decide_or, ↓tq_n, ↓tq_e, ↓tq_r, ↓bq_n, ↓bq_e, ↓bq_r, ↓rq_n, ↓rq_r, ↓rq_e]
    have e : stL s = [] := by unfold stL; rw [a1]; rfl
    exact ret_ok (by unfold stV; rw [e, decide_eq_true a1]; rfl)
  · have hne := k.fresh a2
    simp only [F_decision_Ledger_StandingW, g_decision_Ledger_StandingW, go_sem, reduceIte, Nat.reduceEqDiff, Nat.reduceAdd, Nat.reduceMul, Nat.reduceSub, reduceCtorEq, Nat.reduceLeDiff, Nat.reduceLT, Int.reduceLT, Int.reduceLE, Int.reduceToNat, Int.reduceAdd, Int.reduceSub, Int.reduceNeg, Int.reduceMul, Int.reduceEq, ← Bool.decide_and, ← Bool.decide_or, ↓tq_n, ↓tq_e, ↓tq_r, ↓bq_n, ↓bq_e, ↓bq_r, ↓rq_n, ↓rq_r, ↓rq_e]
    refine CallS.mk (s_slices_DeleteFunc (srtD s.1) (fun d => decide (d.mk2 ∈ s.2)) 49 [.sptr [.ptr lb 0]] b cap _ (AH.blk_put _ _ _) a3 (by rw [srtD_len]; have := ok.few.1; omega) (fun x hx cs => r_decision_Ledger_Standing_1 x lb b1 b2 s _ ((k.put hne _).put hne _))) fun r H' hr => ?_
    obtain ⟨zs, z1, rfl, rfl⟩ := hr
    simp only [F_decision_Ledger_StandingW, g_decision_Ledger_StandingW, go_sem, reduceIte, Nat.reduceEqDiff, Nat.reduceAdd, Nat.reduceMul, Nat.reduceSub, reduceCtorEq, Nat.reduceLeDiff, Nat.reduceLT, Int.reduceLT, Int.reduceLE, Int.reduceToNat, Int.reduceAdd, Int.reduceSub, Int.reduceNeg, Int.reduceMul, Int.reduceEq, ← Bool.decide_and, ← Bool.decide_or, ↓tq_n, ↓tq_e, ↓tq_r, ↓bq_n, ↓bq_e, ↓bq_r, ↓rq_n, ↓rq_r, ↓rq_e]
    have hfx := RGh.fix (n := (stL s).length) (cap := some cap) (h := h'.put b (dcs zs)) (b := b) (AH.blk_put _ _ _) 5
    have z2 : zs.take (stL s).length = stL s := z1
    rw [dcs_take, z2] at hfx
    exact ⟨_, h', hfx.trans (RGh.forget (AV.le.refl _) (le_del (AH.le_put (AH.le.refl _) a2) a2)), by unfold stV; rw [decide_eq_false a1], rfl⟩
/-- What stands in the reference's ledger. -/
def rsL (s : St) : List Dec := s.1.filter fun d => !decide (d.mk2 ∈ s.2)
theorem rsL_sr (s : St) : rsL (srS s) = stL s := by
  unfold rsL stL srS
  refine List.filter_congr fun d _ => ?_
  simp only
  rw [decide_eq_decide.2 (mem_srtM (W := s.2) (x := d.mk2))]
set_option maxHeartbeats 2000000 in
theorem r_ref_Ledger_Standing (rb : Nat) (q : RT) (s : St) (hf : Few s) (h : AH) (hb : h.blk rb = some (rbk q s)) : RCall Try.prog n_ref_Ledger_Standing [.ptr rb 0] h (gl (dcs (rsL s)) (rsL s).length .unk) := by
  refine RCall.of hm cF_ref_Ledger_Standing (by simp [g_ref_Ledger_Standing]) fun hw h' hl => ?_
  have hb := hl.1 _ _ hb
  unfold rbk at hb
  obtain ⟨D, W⟩ := s
  obtain ⟨f1, f2⟩ := hf
  simp only at hb f1 f2
  have hrs : rsL (D, W) = kpK (fun d => decide (d.mk2 ∈ W)) D D.length := by rw [kpK_all]; rfl
  rw [hrs]
  obtain ⟨p, hp⟩ : ∃ p : Dec → Bool, p = fun d => decide (d.mk2 ∈ W) := ⟨_, rfl⟩
  rw [← hp]
  simp only [F_ref_Ledger_Standing, g_ref_Ledger_Standing, go_sem, reduceIte, Nat.reduceEqDiff, Nat.reduceAdd, Nat.reduceMul, Nat.reduceSub, reduceCtorEq, Nat.reduceLeDiff, Nat.reduceLT, Int.reduceLT, Int.reduceLE, Int.reduceToNat, Int.reduceAdd, Int.reduceSub, Int.reduceNeg, Int.reduceMul, Int.reduceEq, ← Bool.decide_and, ← Bool.decide_or, ↓tq_n, ↓tq_e, ↓tq_r, ↓bq_n, ↓bq_e, ↓bq_r, ↓rq_n, ↓rq_r, ↓rq_e]
  refine awp_tok 3 5 (nl := true) (n := 0) (cs := []) rfl fun t ht => ?_
  refine awp_loop (fun i : Nat => [(0, .ptr rb 0), (3, gl (dcs (kpK p D i)) (kpK p D i).length (.tok t)), (4, I i)]) (fun i => h'.setTok t (kpK p D i).length 5) (fun i => i ≤ D.length) (fun i => D.length - i) 0 (Nat.zero_le _) (GStep.forget (by repeat' first | exact EnvLe.nil _ | refine EnvLe.cons (AV.le.of_eq rfl) ?_ | refine EnvLe.cons (AV.le.undef _) ?_ | refine EnvLe.cons AV.le.unk ?_) (by repeat' first | exact AH.le.refl _ | assumption | (refine AH.le_put ?_ (by first | assumption | exact (AH.blk_put_ne _ _ (by assumption)).trans (by assumption) | exact AH.none_put (by assumption) | exact AH.none_put (AH.none_put (by assumption)) | (simp only [AH.blk_setTok, AH.tok_put] at *; first | assumption | exact AH.none_put (by assumption)))) | (refine AH.le_setTok ?_ (by first | assumption | exact (AH.blk_put_ne _ _ (by assumption)).trans (by assumption) | exact AH.none_put (by assumption) | exact AH.none_put (AH.none_put (by assumption)) | (simp only [AH.blk_setTok, AH.tok_put] at *; first | assumption | exact AH.none_put (by assumption)))) | (refine AH.le_putM ?_ (by first | assumption | exact (AH.mp_putM_ne _ _ (by assumption)).trans (by assumption) | (simp only [AH.mp_put, AH.mp_setTok] at *; assumption))))) fun i hi => .of_vg hm ?_
  by_cases h3 : i < D.length
  case neg =>
    have h3 : i = D.length := by omega
    subst h3
    simp only [hb, F_ref_Ledger_Standing, g_ref_Ledger_Standing, go_sem, reduceIte, Nat.reduceEqDiff, Nat.reduceAdd, Nat.reduceMul, Nat.reduceSub, reduceCtorEq, Nat.reduceLeDiff, Nat.reduceLT, Int.reduceLT, Int.reduceLE, Int.reduceToNat, Int.reduceAdd, Int.reduceSub, Int.reduceNeg, Int.reduceMul, Int.reduceEq, ← Bool.decide_and, ← Bool.decide_or, ↓tq_n, ↓tq_e, ↓tq_r, ↓bq_n, ↓bq_e, ↓bq_r, ↓rq_n, ↓rq_r, ↓rq_e]
    exact ret_gl (by repeat' first | exact AH.le.refl _ | assumption | (refine AH.le_put ?_ (by first | assumption | exact (AH.blk_put_ne _ _ (by assumption)).trans (by assumption) | exact AH.none_put (by assumption) | exact AH.none_put (AH.none_put (by assumption)) | (simp only [AH.blk_setTok, AH.tok_put] at *; first | assumption | exact AH.none_put (by assumption)))) | (refine AH.le_setTok ?_ (by first | assumption | exact (AH.blk_put_ne _ _ (by assumption)).trans (by assumption) | exact AH.none_put (by assumption) | exact AH.none_put (AH.none_put (by assumption)) | (simp only [AH.blk_setTok, AH.tok_put] at *; first | assumption | exact AH.none_put (by assumption)))) | (refine AH.le_putM ?_ (by first | assumption | exact (AH.mp_putM_ne _ _ (by assumption)).trans (by assumption) | (simp only [AH.mp_put, AH.mp_setTok] at *; assumption))))
  have hc : (i : Int) < (D.length : Int) := by omega
  have hi0 : (0 : Int) ≤ (i : Int) := by omega
  have hsucc := kpK_succ p h3
  have hkl : (kpK p D i).length ≤ 200 := by
    have := List.length_filter_le (fun x => !p x) (D.take i)
    rw [List.length_take] at this
    unfold kpK
    omega
  have hdd := dcs_drop h3
  obtain ⟨d, hd⟩ : ∃ d, d = D.getD i dD := ⟨_, rfl⟩
  rw [← hd] at hdd hsucc
  obtain ⟨G, hG⟩ : ∃ G : Nat → Bool, G = fun j => decide (d.mk2 ∈ W.take j) := ⟨_, rfl⟩
  have hG0 : G 0 = false := by rw [hG]; simp
  have hGs : ∀ j, j < W.length → G (j + 1) = (G j || decide (d.mk2 = W.getD j (0, 0))) := fun j hj => by
    rw [hG]
    simp only
    rw [← Bool.decide_or]
    refine decide_eq_decide.2 ?_
    rw [take_getD (0, 0) hj, List.mem_append, List.mem_singleton]
  have hGl : G W.length = p d := by rw [hG, hp]; simp only [List.take_length]
  clear hG
  simp only [hb, hc, F_ref_Ledger_Standing, g_ref_Ledger_Standing, go_sem, reduceIte, Nat.reduceEqDiff, Nat.reduceAdd, Nat.reduceMul, Nat.reduceSub, reduceCtorEq, Nat.reduceLeDiff, Nat.reduceLT, Int.reduceLT, Int.reduceLE, Int.reduceToNat, Int.reduceAdd, Int.reduceSub, Int.reduceNeg, Int.reduceMul, Int.reduceEq, ← Bool.decide_and, ← Bool.decide_or, ↓tq_n, ↓tq_e, ↓tq_r, ↓bq_n, ↓bq_e, ↓bq_r, ↓rq_n, ↓rq_r, ↓rq_e]
  refine awp_loop (fun j : Nat => [(0, .ptr rb 0), (3, gl (dcs (kpK p D i)) (kpK p D i).length (.tok t)), (4, I i), (5, .bool (G j)), (6, I j)]) (fun _ => h'.setTok t (kpK p D i).length 5) (fun j => j ≤ W.length) (fun j => W.length - j) 0 (Nat.zero_le _) (by rw [hG0]; exact (GStep.forget (by repeat' first | exact EnvLe.nil _ | refine EnvLe.cons (AV.le.of_eq rfl) ?_ | refine EnvLe.cons (AV.le.undef _) ?_ | refine EnvLe.cons AV.le.unk ?_) (by repeat' first | exact AH.le.refl _ | assumption | (refine AH.le_put ?_ (by first | assumption | exact (AH.blk_put_ne _ _ (by assumption)).trans (by assumption) | exact AH.none_put (by assumption) | exact AH.none_put (AH.none_put (by assumption)) | (simp only [AH.blk_setTok, AH.tok_put] at *; first | assumption | exact AH.none_put (by assumption)))) | (refine AH.le_setTok ?_ (by first | assumption | exact (AH.blk_put_ne _ _ (by assumption)).trans (by assumption) | exact AH.none_put (by assumption) | exact AH.none_put (AH.none_put (by assumption)) | (simp only [AH.blk_setTok, AH.tok_put] at *; first | assumption | exact AH.none_put (by assumption)))) | (refine AH.le_putM ?_ (by first | assumption | exact (AH.mp_putM_ne _ _ (by assumption)).trans (by assumption) | (simp only [AH.mp_put, AH.mp_setTok] at *; assumption)))))) fun j hj => .of_vg hm ?_
  by_cases h4 : j < W.length
  · have hcj : (j : Int) < (W.length : Int) := by omega
    have hj0 : (0 : Int) ≤ (j : Int) := by omega
    have hs1 := hGs j h4
    cases c1 : G j with
    | true =>
      rw [c1, Bool.true_or] at hs1
      simp only [hb, hc, hcj, F_ref_Ledger_Standing, g_ref_Ledger_Standing, go_sem, reduceIte, Nat.reduceEqDiff, Nat.reduceAdd, Nat.reduceMul, Nat.reduceSub, reduceCtorEq, Nat.reduceLeDiff, Nat.reduceLT, Int.reduceLT, Int.reduceLE, Int.reduceToNat, Int.reduceAdd, Int.reduceSub, Int.reduceNeg, Int.reduceMul, Int.reduceEq, ← Bool.decide_and, ← Bool.decide_or, ↓tq_n, ↓tq_e, ↓tq_r, ↓bq_n, ↓bq_e, ↓bq_r, ↓rq_n, ↓rq_r, ↓rq_e]
      refine ⟨by rw [inR64]; omega, j + 1, by omega, by omega, ?_⟩
      rw [hs1]
      exact (GStep.forget (by repeat' first | exact EnvLe.nil _ | refine EnvLe.cons (AV.le.of_eq rfl) ?_ | refine EnvLe.cons (AV.le.undef _) ?_ | refine EnvLe.cons AV.le.unk ?_) (by repeat' first | exact AH.le.refl _ | assumption | (refine AH.le_put ?_ (by first | assumption | exact (AH.blk_put_ne _ _ (by assumption)).trans (by assumption) | exact AH.none_put (by assumption) | exact AH.none_put (AH.none_put (by assumption)) | (simp only [AH.blk_setTok, AH.tok_put] at *; first | assumption | exact AH.none_put (by assumption)))) | (refine AH.le_setTok ?_ (by first | assumption | exact (AH.blk_put_ne _ _ (by assumption)).trans (by assumption) | exact AH.none_put (by assumption) | exact AH.none_put (AH.none_put (by assumption)) | (simp only [AH.blk_setTok, AH.tok_put] at *; first | assumption | exact AH.none_put (by assumption)))) | (refine AH.le_putM ?_ (by first | assumption | exact (AH.mp_putM_ne _ _ (by assumption)).trans (by assumption) | (simp only [AH.mp_put, AH.mp_setTok] at *; assumption)))))
    | false =>
      rw [c1, Bool.false_or] at hs1
      obtain ⟨m, hm2⟩ : ∃ m, m = W.getD j (0, 0) := ⟨_, rfl⟩
      have hdw := prs_drop h4
      rw [← hm2] at hdw hs1
      simp only [hb, hc, hcj, hi0, hj0, hdd, hdw, F_ref_Ledger_Standing, g_ref_Ledger_Standing, go_sem, reduceIte, Nat.reduceEqDiff, Nat.reduceAdd, Nat.reduceMul, Nat.reduceSub, reduceCtorEq, Nat.reduceLeDiff, Nat.reduceLT, Int.reduceLT, Int.reduceLE, Int.reduceToNat, Int.reduceAdd, Int.reduceSub, Int.reduceNeg, Int.reduceMul, Int.reduceEq, ← Bool.decide_and, ← Bool.decide_or, ↓tq_n, ↓tq_e, ↓tq_r, ↓bq_n, ↓bq_e, ↓bq_r, ↓rq_n, ↓rq_r, ↓rq_e]
      refine CallG.mk (r_ref_mark d _) ?_
      by_cases c2 : d.mk2 = m
      · have h8 : m.1 = d.au ∧ m.2 = d.nu := by rw [← c2]; exact ⟨rfl, rfl⟩
        rw [decide_eq_true c2] at hs1
        simp only [Dec.mk2, eqCells, decide_eq_true h8.1, decide_eq_true h8.2, F_ref_Ledger_Standing, g_ref_Ledger_Standing, go_sem, reduceIte, Nat.reduceEqDiff, Nat.reduceAdd, Nat.reduceMul, Nat.reduceSub, reduceCtorEq, Nat.reduceLeDiff, Nat.reduceLT, Int.reduceLT, Int.reduceLE, Int.reduceToNat, Int.reduceAdd, Int.reduceSub, Int.reduceNeg, Int.reduceMul, Int.reduceEq, ← Bool.decide_and, ← Bool.decide_or, ↓tq_n, ↓tq_e, ↓tq_r, ↓bq_n, ↓bq_e, ↓bq_r, ↓rq_n, ↓rq_r, ↓rq_e]
        refine ⟨by rw [inR64]; omega, j + 1, by omega, by omega, ?_⟩
        rw [hs1]
        exact (GStep.forget (by repeat' first | exact EnvLe.nil _ | refine EnvLe.cons (AV.le.of_eq rfl) ?_ | refine EnvLe.cons (AV.le.undef _) ?_ | refine EnvLe.cons AV.le.unk ?_) (by repeat' first | exact AH.le.refl _ | assumption | (refine AH.le_put ?_ (by first | assumption | exact (AH.blk_put_ne _ _ (by assumption)).trans (by assumption) | exact AH.none_put (by assumption) | exact AH.none_put (AH.none_put (by assumption)) | (simp only [AH.blk_setTok, AH.tok_put] at *; first | assumption | exact AH.none_put (by assumption)))) | (refine AH.le_setTok ?_ (by first | assumption | exact (AH.blk_put_ne _ _ (by assumption)).trans (by assumption) | exact AH.none_put (by assumption) | exact AH.none_put (AH.none_put (by assumption)) | (simp only [AH.blk_setTok, AH.tok_put] at *; first | assumption | exact AH.none_put (by assumption)))) | (refine AH.le_putM ?_ (by first | assumption | exact (AH.mp_putM_ne _ _ (by assumption)).trans (by assumption) | (simp only [AH.mp_put, AH.mp_setTok] at *; assumption)))))
      · have h8 : ¬ (m.1 = d.au ∧ m.2 = d.nu) := fun hh => c2 (Prod.ext hh.1.symm hh.2.symm)
        rw [decide_eq_false c2] at hs1
        simp only [Dec.mk2, eqCells, h8, decide_eq_false h8, F_ref_Ledger_Standing, g_ref_Ledger_Standing, go_sem, reduceIte, Nat.reduceEqDiff, Nat.reduceAdd, Nat.reduceMul, Nat.reduceSub, reduceCtorEq, Nat.reduceLeDiff, Nat.reduceLT, Int.reduceLT, Int.reduceLE, Int.reduceToNat, Int.reduceAdd, Int.reduceSub, Int.reduceNeg, Int.reduceMul, Int.reduceEq, ← Bool.decide_and, ← Bool.decide_or, ↓tq_n, ↓tq_e, ↓tq_r, ↓bq_n, ↓bq_e, ↓bq_r, ↓rq_n, ↓rq_r, ↓rq_e]
        refine ⟨by rw [inR64]; omega, j + 1, by omega, by omega, ?_⟩
        rw [hs1]
        exact (GStep.forget (by repeat' first | exact EnvLe.nil _ | refine EnvLe.cons (AV.le.of_eq rfl) ?_ | refine EnvLe.cons (AV.le.undef _) ?_ | refine EnvLe.cons AV.le.unk ?_) (by repeat' first | exact AH.le.refl _ | assumption | (refine AH.le_put ?_ (by first | assumption | exact (AH.blk_put_ne _ _ (by assumption)).trans (by assumption) | exact AH.none_put (by assumption) | exact AH.none_put (AH.none_put (by assumption)) | (simp only [AH.blk_setTok, AH.tok_put] at *; first | assumption | exact AH.none_put (by assumption)))) | (refine AH.le_setTok ?_ (by first | assumption | exact (AH.blk_put_ne _ _ (by assumption)).trans (by assumption) | exact AH.none_put (by assumption) | exact AH.none_put (AH.none_put (by assumption)) | (simp only [AH.blk_setTok, AH.tok_put] at *; first | assumption | exact AH.none_put (by assumption)))) | (refine AH.le_putM ?_ (by first | assumption | exact (AH.mp_putM_ne _ _ (by assumption)).trans (by assumption) | (simp only [AH.mp_put, AH.mp_setTok] at *; assumption)))))
  have h4 : j = W.length := by omega
  subst h4
  rw [hGl]
  cases e1 : p d with
  | true =>
    rw [e1, if_pos rfl] at hsucc
    simp only [hb, hc, F_ref_Ledger_Standing, g_ref_Ledger_Standing, go_sem, reduceIte, Nat.reduceEqDiff, Nat.reduceAdd, Nat.reduceMul, Nat.reduceSub, reduceCtorEq, Nat.reduceLeDiff, Nat.reduceLT, Int.reduceLT, Int.reduceLE, Int.reduceToNat, Int.reduceAdd, Int.reduceSub, Int.reduceNeg, Int.reduceMul, Int.reduceEq, ← Bool.decide_and, ← Bool.decide_or, ↓tq_n, ↓tq_e, ↓tq_r, ↓bq_n, ↓bq_e, ↓bq_r, ↓rq_n, ↓rq_r, ↓rq_e]
    refine ⟨by rw [inR64]; omega, i + 1, by omega, by omega, ?_⟩
    rw [hsucc]
    exact (GStep.forget (by repeat' first | exact EnvLe.nil _ | refine EnvLe.cons (AV.le.of_eq rfl) ?_ | refine EnvLe.cons (AV.le.undef _) ?_ | refine EnvLe.cons AV.le.unk ?_) (by repeat' first | exact AH.le.refl _ | assumption | (refine AH.le_put ?_ (by first | assumption | exact (AH.blk_put_ne _ _ (by assumption)).trans (by assumption) | exact AH.none_put (by assumption) | exact AH.none_put (AH.none_put (by assumption)) | (simp only [AH.blk_setTok, AH.tok_put] at *; first | assumption | exact AH.none_put (by assumption)))) | (refine AH.le_setTok ?_ (by first | assumption | exact (AH.blk_put_ne _ _ (by assumption)).trans (by assumption) | exact AH.none_put (by assumption) | exact AH.none_put (AH.none_put (by assumption)) | (simp only [AH.blk_setTok, AH.tok_put] at *; first | assumption | exact AH.none_put (by assumption)))) | (refine AH.le_putM ?_ (by first | assumption | exact (AH.mp_putM_ne _ _ (by assumption)).trans (by assumption) | (simp only [AH.mp_put, AH.mp_setTok] at *; assumption)))))
  | false =>
    rw [e1, if_neg (by decide)] at hsucc
    simp only [hb, hc, hi0, hdd, F_ref_Ledger_Standing, g_ref_Ledger_Standing, go_sem, reduceIte, Nat.reduceEqDiff, Nat.reduceAdd, Nat.reduceMul, Nat.reduceSub, reduceCtorEq, Nat.reduceLeDiff, Nat.reduceLT, Int.reduceLT, Int.reduceLE, Int.reduceToNat, Int.reduceAdd, Int.reduceSub, Int.reduceNeg, Int.reduceMul, Int.reduceEq, ← Bool.decide_and, ← Bool.decide_or, ↓tq_n, ↓tq_e, ↓tq_r, ↓bq_n, ↓bq_e, ↓bq_r, ↓rq_n, ↓rq_r, ↓rq_e]
    refine ⟨dcs_len _, by omega, by omega, by rw [inR64]; omega, i + 1, by omega, by omega, ?_⟩
    rw [hsucc, dcs_append, List.length_append]
    exact (GStep.forget (by repeat' first | exact EnvLe.nil _ | refine EnvLe.cons (AV.le.of_eq rfl) ?_ | refine EnvLe.cons (AV.le.undef _) ?_ | refine EnvLe.cons AV.le.unk ?_) (by repeat' first | exact AH.le.refl _ | assumption | (refine AH.le_put ?_ (by first | assumption | exact (AH.blk_put_ne _ _ (by assumption)).trans (by assumption) | exact AH.none_put (by assumption) | exact AH.none_put (AH.none_put (by assumption)) | (simp only [AH.blk_setTok, AH.tok_put] at *; first | assumption | exact AH.none_put (by assumption)))) | (refine AH.le_setTok ?_ (by first | assumption | exact (AH.blk_put_ne _ _ (by assumption)).trans (by assumption) | exact AH.none_put (by assumption) | exact AH.none_put (AH.none_put (by assumption)) | (simp only [AH.blk_setTok, AH.tok_put] at *; first | assumption | exact AH.none_put (by assumption)))) | (refine AH.le_putM ?_ (by first | assumption | exact (AH.mp_putM_ne _ _ (by assumption)).trans (by assumption) | (simp only [AH.mp_put, AH.mp_setTok] at *; assumption)))))
end Go.Proofs.Ytcnmodnafnadlaa
