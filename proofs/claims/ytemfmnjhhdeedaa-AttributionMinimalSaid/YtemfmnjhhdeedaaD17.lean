/- Calls of functions of this seat's program: the reference's search through all orders. No condition. -/
import Derived.Test.YtemfmnjhhdeedaaD14
namespace Go.Proofs.Ytemfmnjhhdeedaa
open Go Go.Abs
set_option linter.unusedSimpArgs false
set_option linter.unusedVariables false
set_option maxRecDepth 20000

/-- Where a vertex stands. -/
def psK (o : List Int) (x : Int) : Nat → Nat
  | 0 => 0
  | k + 1 => if o.getD k 0 = x then k else psK o x k
def blR (a : List (Int × Int)) (o : List Int) (i : Nat) : Bool := decide (psK o (a.getD i (0, 0)).2 o.length < psK o (a.getD i (0, 0)).1 o.length)
def brF (a : List (Int × Int)) (o : List Int) (i : Nat) : List Nat := (List.range i).filter (blR a o)
theorem brF_succ (a : List (Int × Int)) (o : List Int) (i : Nat) : brF a o (i + 1) = if blR a o i = true then brF a o i ++ [i] else brF a o i := by
  unfold brF
  rw [List.range_succ, List.filter_append]
  by_cases h : blR a o i = true
  · rw [if_pos h]; simp [h]
  · rw [if_neg h]; simp [h]
theorem brF_len (a : List (Int × Int)) (o : List Int) (i : Nat) : (brF a o i).length ≤ i := by
  have := List.length_filter_le (blR a o) (List.range i)
  rw [List.length_range] at this
  exact this
theorem psK_at {q : List Nat} (hq : q.Nodup) {j : Nat} (hj : j < q.length) : ∀ k, j < k → k ≤ q.length → psK (nats q) (q.getD j 0 : Nat) k = j := by
  intro k
  induction k with
  | zero => intro h; omega
  | succ k ih =>
    intro h1 h2
    have hk : k < q.length := by omega
    have e : (nats q).getD k 0 = ((q.getD k 0 : Nat) : Int) := by simp [nats, List.getD, hk]
    unfold psK
    rw [e]
    by_cases hjk : k = j
    · subst hjk; rw [if_pos rfl]
    · have hne : ¬ ((q.getD k 0 : Nat) : Int) = ((q.getD j 0 : Nat) : Int) := fun hh => by
        have h3 : q.getD k 0 = q.getD j 0 := by omega
        have := (List.pairwise_iff_getElem.1 hq) j k (by omega) hk (by omega)
        simp [List.getD, hj, hk] at h3
        exact this h3.symm
      rw [if_neg hne]
      exact ih (by omega) (by omega)
theorem full_mem {n : Nat} {q : List Nat} (hq : Pre n q) (hl : q.length = n) {x : Nat} (hx : x < n) : x ∈ q := by
  refine Classical.byContradiction fun hn => ?_
  have := nd_lenN (n := n) (List.nodup_cons.2 ⟨hn, hq.1⟩) (fun y hy => by
    rcases List.mem_cons.1 hy with rfl | hy
    · exact hx
    · exact hq.2 y hy)
  simp at this
  omega
theorem blR_eq {n : Nat} {a : List (Int × Int)} (he : Ev n a) {q : List Nat} (hq : Pre n q) (hl : q.length = n) {i : Nat} (hi : i < a.length) : blR a (nats q) i = bB a q i := by
  obtain ⟨e1, e2, e3, e4⟩ := ev_k he hi
  obtain ⟨j, hj, ej⟩ := List.getElem_of_mem (full_mem hq hl e3)
  obtain ⟨k, hk, ek⟩ := List.getElem_of_mem (full_mem hq hl e2)
  have gj : q.getD j 0 = tt a i := by simp [List.getD, hj, ej]
  have gk : q.getD k 0 = fr a i := by simp [List.getD, hk, ek]
  have pj := psK_at hq.1 hj q.length hj (Nat.le_refl _)
  have pk := psK_at hq.1 hk q.length hk (Nat.le_refl _)
  rw [gj] at pj
  rw [gk] at pk
  unfold blR
  rw [e1, nats_len]
  simp only
  rw [pj, pk, Bool.eq_iff_iff, decide_eq_true_eq]
  unfold bB
  rw [List.any_eq_true]
  have huni : ∀ {x y : Nat}, x < q.length → y < q.length → q.getD x 0 = q.getD y 0 → x = y := fun {x y} hx hy he => by
    have h1 := psK_at hq.1 hx q.length hx (Nat.le_refl _)
    have h2 := psK_at hq.1 hy q.length hy (Nat.le_refl _)
    rw [he] at h1
    omega
  constructor
  · intro h
    refine ⟨k, List.mem_range.2 hk, ?_⟩
    rw [Bool.and_eq_true, decide_eq_true_eq, decide_eq_true_eq]
    refine ⟨gk, ?_⟩
    rw [List.mem_take_iff_getElem]
    exact ⟨j, by omega, ej⟩
  · rintro ⟨k', h1, h2⟩
    rw [Bool.and_eq_true, decide_eq_true_eq, decide_eq_true_eq, List.mem_take_iff_getElem] at h2
    obtain ⟨h3, j', h4, h5⟩ := h2
    have hk' := List.mem_range.1 h1
    have a1 : k' = k := huni hk' hk (by rw [h3, gk])
    have hj' : j' < q.length := by omega
    have a2 : j' = j := huni hj' hj (by rw [gj]; simp [List.getD, hj', h5])
    omega
theorem brF_eq {n : Nat} {a : List (Int × Int)} (he : Ev n a) {q : List Nat} (hq : Pre n q) (hl : q.length = n) : brF a (nats q) a.length = Bl a q := by
  unfold brF Bl
  refine List.filter_congr fun i hi => ?_
  exact blR_eq he hq hl (List.mem_range.1 hi)
theorem csK_app (w s t : List Int) : ∀ k, k ≤ s.length → csK w (s ++ t) k = csK w s k := by
  intro k
  induction k with
  | zero => intro _; rfl
  | succ k ih =>
    intro hk
    simp only [csK]
    rw [ih (by omega)]
    have : (s ++ t).getD k 0 = s.getD k 0 := by simp [List.getD, List.getElem?_append, show k < s.length by omega]
    rw [this]
theorem csK_filter (w : List Int) (P : Nat → Bool) : ∀ k, csK w (nats ((List.range k).filter P)) (nats ((List.range k).filter P)).length = sumK w P k := by
  intro k
  induction k with
  | zero => rfl
  | succ k ih =>
    rw [List.range_succ, List.filter_append, nats_append]
    simp only [sumK]
    cases hp : P k with
    | false => simp [hp, nats] at ih ⊢; exact ih
    | true =>
      have e : List.filter P [k] = [k] := by simp [hp]
      rw [e, List.length_append]
      have e2 : (nats [k]).length = 1 := rfl
      rw [e2]
      simp only [csK]
      rw [csK_app _ _ _ _ (Nat.le_refl _), ih]
      congr 1
      simp [nats, List.getD]
theorem cs_Bl (a : List (Int × Int)) (w : List Int) (q : List Nat) : csK w (nats (Bl a q)) (nats (Bl a q)).length = bc a w q := csK_filter w (bB a q) a.length
theorem r_ref_backward (n1 : Bool) (a : List (Int × Int)) (u1 : Tail) (n2 : Bool) (o : List Int) (u2 : Tail) (hal : a.length ≤ 1000) (hol : o.length ≤ 1000) (h : AH) : RCall Try.prog n_ref_backward [.sl n1 a.length (prs a) u1, .sl n2 o.length (i64s o) u2] h (gl (i64s (nats (brF a o a.length))) (nats (brF a o a.length)).length .unk) := by
  refine RCall.of hm cF_ref_backward (by simp [g_ref_backward]) fun hw h' hl => ?_
  simp only [F_ref_backward, g_ref_backward, go_sem, reduceIte, Nat.reduceEqDiff, Nat.reduceAdd, Nat.reduceMul, Nat.reduceSub, reduceCtorEq, Nat.reduceLeDiff, Nat.reduceLT, Int.reduceLT, Int.reduceLE, Int.reduceToNat, Int.reduceAdd, Int.reduceSub, Int.reduceNeg, Int.reduceMul, Int.reduceEq, ← Bool.decide_and, ← Bool.decide_or, ↓tq_n, ↓tq_e, ↓tq_r, ↓bq_n, ↓bq_e, ↓bq_r, ↓rq_n, ↓rq_r, ↓rq_e]
  refine awp_tok 5 1 (nl := true) (n := 0) (cs := []) rfl fun t ht => ?_
  refine awp_loop (fun i : Nat => [(0, .sl n1 a.length (prs a) u1), (1, .sl n2 o.length (i64s o) u2), (5, gl (i64s (nats (brF a o i))) (nats (brF a o i)).length (.tok t)), (6, I i)]) (fun i => h'.setTok t (nats (brF a o i)).length 1) (fun i => i ≤ a.length) (fun i => a.length - i) 0 (Nat.zero_le _) (GStep.forget (by repeat' first | exact EnvLe.nil _ | refine EnvLe.cons (AV.le.of_eq rfl) ?_ | refine EnvLe.cons (AV.le.undef _) ?_ | refine EnvLe.cons AV.le.unk ?_) (by repeat' first | exact AH.le.refl _ | assumption | (refine AH.le_put ?_ (by first | assumption | exact (AH.blk_put_ne _ _ (by assumption)).trans (by assumption) | exact AH.none_put (by assumption) | exact AH.none_put (AH.none_put (by assumption)) | (simp only [AH.blk_setTok, AH.tok_put] at *; first | assumption | exact AH.none_put (by assumption)))) | (refine AH.le_setTok ?_ (by first | assumption | exact (AH.blk_put_ne _ _ (by assumption)).trans (by assumption) | exact AH.none_put (by assumption) | exact AH.none_put (AH.none_put (by assumption)) | (simp only [AH.blk_setTok, AH.tok_put] at *; first | assumption | exact AH.none_put (by assumption)))) | (refine AH.le_putM ?_ (by first | assumption | exact (AH.mp_putM_ne _ _ (by assumption)).trans (by assumption) | (simp only [AH.mp_put, AH.mp_setTok] at *; assumption))))) fun i hi => .of_vg hm ?_
  by_cases h3 : i < a.length
  case neg =>
    have h3 : i = a.length := by omega
    subst h3
    simp only [F_ref_backward, g_ref_backward, go_sem, reduceIte, Nat.reduceEqDiff, Nat.reduceAdd, Nat.reduceMul, Nat.reduceSub, reduceCtorEq, Nat.reduceLeDiff, Nat.reduceLT, Int.reduceLT, Int.reduceLE, Int.reduceToNat, Int.reduceAdd, Int.reduceSub, Int.reduceNeg, Int.reduceMul, Int.reduceEq, ← Bool.decide_and, ← Bool.decide_or, ↓tq_n, ↓tq_e, ↓tq_r, ↓bq_n, ↓bq_e, ↓bq_r, ↓rq_n, ↓rq_r, ↓rq_e]
    exact ret_gl (by repeat' first | exact AH.le.refl _ | assumption | (refine AH.le_put ?_ (by first | assumption | exact (AH.blk_put_ne _ _ (by assumption)).trans (by assumption) | exact AH.none_put (by assumption) | exact AH.none_put (AH.none_put (by assumption)) | (simp only [AH.blk_setTok, AH.tok_put] at *; first | assumption | exact AH.none_put (by assumption)))) | (refine AH.le_setTok ?_ (by first | assumption | exact (AH.blk_put_ne _ _ (by assumption)).trans (by assumption) | exact AH.none_put (by assumption) | exact AH.none_put (AH.none_put (by assumption)) | (simp only [AH.blk_setTok, AH.tok_put] at *; first | assumption | exact AH.none_put (by assumption)))) | (refine AH.le_putM ?_ (by first | assumption | exact (AH.mp_putM_ne _ _ (by assumption)).trans (by assumption) | (simp only [AH.mp_put, AH.mp_setTok] at *; assumption))))
  have hc : (i : Int) < (a.length : Int) := by omega
  have hsucc := brF_succ a o i
  have hrl := brF_len a o i
  have hnl := nats_len (brF a o i)
  simp only [hc, F_ref_backward, g_ref_backward, go_sem, reduceIte, Nat.reduceEqDiff, Nat.reduceAdd, Nat.reduceMul, Nat.reduceSub, reduceCtorEq, Nat.reduceLeDiff, Nat.reduceLT, Int.reduceLT, Int.reduceLE, Int.reduceToNat, Int.reduceAdd, Int.reduceSub, Int.reduceNeg, Int.reduceMul, Int.reduceEq, ← Bool.decide_and, ← Bool.decide_or, ↓tq_n, ↓tq_e, ↓tq_r, ↓bq_n, ↓bq_e, ↓bq_r, ↓rq_n, ↓rq_r, ↓rq_e]
  refine awp_loop (fun k : Nat => [(0, .sl n1 a.length (prs a) u1), (1, .sl n2 o.length (i64s o) u2), (5, gl (i64s (nats (brF a o i))) (nats (brF a o i)).length (.tok t)), (6, I i), (7, I (psK o (a.getD i (0, 0)).1 k)), (8, I (psK o (a.getD i (0, 0)).2 k)), (9, I k)]) (fun _ => h'.setTok t (nats (brF a o i)).length 1) (fun k => k ≤ o.length) (fun k => o.length - k) 0 (Nat.zero_le _) (GStep.forget (by repeat' first | exact EnvLe.nil _ | refine EnvLe.cons (AV.le.of_eq rfl) ?_ | refine EnvLe.cons (AV.le.undef _) ?_ | refine EnvLe.cons AV.le.unk ?_) (by repeat' first | exact AH.le.refl _ | assumption | (refine AH.le_put ?_ (by first | assumption | exact (AH.blk_put_ne _ _ (by assumption)).trans (by assumption) | exact AH.none_put (by assumption) | exact AH.none_put (AH.none_put (by assumption)) | (simp only [AH.blk_setTok, AH.tok_put] at *; first | assumption | exact AH.none_put (by assumption)))) | (refine AH.le_setTok ?_ (by first | assumption | exact (AH.blk_put_ne _ _ (by assumption)).trans (by assumption) | exact AH.none_put (by assumption) | exact AH.none_put (AH.none_put (by assumption)) | (simp only [AH.blk_setTok, AH.tok_put] at *; first | assumption | exact AH.none_put (by assumption)))) | (refine AH.le_putM ?_ (by first | assumption | exact (AH.mp_putM_ne _ _ (by assumption)).trans (by assumption) | (simp only [AH.mp_put, AH.mp_setTok] at *; assumption))))) fun k hk => .of_vg hm ?_
  by_cases h4 : k < o.length
  · have hck : (k : Int) < (o.length : Int) := by omega
    have p1 : psK o (a.getD i (0, 0)).1 (k + 1) = if o.getD k 0 = (a.getD i (0, 0)).1 then k else psK o (a.getD i (0, 0)).1 k := rfl
    have p2 : psK o (a.getD i (0, 0)).2 (k + 1) = if o.getD k 0 = (a.getD i (0, 0)).2 then k else psK o (a.getD i (0, 0)).2 k := rfl
    by_cases c1 : o.getD k 0 = (a.getD i (0, 0)).1 <;> by_cases c2 : o.getD k 0 = (a.getD i (0, 0)).2
    · rw [if_pos c1] at p1; rw [if_pos c2] at p2
      simp only [hck, hc, i64s_drop h4, prs_drop h3, decide_eq_true c1, decide_eq_true c2, F_ref_backward, g_ref_backward, go_sem, reduceIte, Nat.reduceEqDiff, Nat.reduceAdd, Nat.reduceMul, Nat.reduceSub, reduceCtorEq, Nat.reduceLeDiff, Nat.reduceLT, Int.reduceLT, Int.reduceLE, Int.reduceToNat, Int.reduceAdd, Int.reduceSub, Int.reduceNeg, Int.reduceMul, Int.reduceEq, ← Bool.decide_and, ← Bool.decide_or, ↓tq_n, ↓tq_e, ↓tq_r, ↓bq_n, ↓bq_e, ↓bq_r, ↓rq_n, ↓rq_r, ↓rq_e]
      refine ⟨by rw [inR64]; omega, k + 1, by omega, by omega, ?_⟩
      rw [p1, p2]; exact (GStep.forget (by repeat' first | exact EnvLe.nil _ | refine EnvLe.cons (AV.le.of_eq rfl) ?_ | refine EnvLe.cons (AV.le.undef _) ?_ | refine EnvLe.cons AV.le.unk ?_) (by repeat' first | exact AH.le.refl _ | assumption | (refine AH.le_put ?_ (by first | assumption | exact (AH.blk_put_ne _ _ (by assumption)).trans (by assumption) | exact AH.none_put (by assumption) | exact AH.none_put (AH.none_put (by assumption)) | (simp only [AH.blk_setTok, AH.tok_put] at *; first | assumption | exact AH.none_put (by assumption)))) | (refine AH.le_setTok ?_ (by first | assumption | exact (AH.blk_put_ne _ _ (by assumption)).trans (by assumption) | exact AH.none_put (by assumption) | exact AH.none_put (AH.none_put (by assumption)) | (simp only [AH.blk_setTok, AH.tok_put] at *; first | assumption | exact AH.none_put (by assumption)))) | (refine AH.le_putM ?_ (by first | assumption | exact (AH.mp_putM_ne _ _ (by assumption)).trans (by assumption) | (simp only [AH.mp_put, AH.mp_setTok] at *; assumption)))))
    · rw [if_pos c1] at p1; rw [if_neg c2] at p2
      simp only [hck, hc, i64s_drop h4, prs_drop h3, decide_eq_true c1, decide_eq_false c2, F_ref_backward, g_ref_backward, go_sem, reduceIte, Nat.reduceEqDiff, Nat.reduceAdd, Nat.reduceMul, Nat.reduceSub, reduceCtorEq, Nat.reduceLeDiff, Nat.reduceLT, Int.reduceLT, Int.reduceLE, Int.reduceToNat, Int.reduceAdd, Int.reduceSub, Int.reduceNeg, Int.reduceMul, Int.reduceEq, ← Bool.decide_and, ← Bool.decide_or, ↓tq_n, ↓tq_e, ↓tq_r, ↓bq_n, ↓bq_e, ↓bq_r, ↓rq_n, ↓rq_r, ↓rq_e]
      refine ⟨by rw [inR64]; omega, k + 1, by omega, by omega, ?_⟩
      rw [p1, p2]; exact (GStep.forget (by repeat' first | exact EnvLe.nil _ | refine EnvLe.cons (AV.le.of_eq rfl) ?_ | refine EnvLe.cons (AV.le.undef _) ?_ | refine EnvLe.cons AV.le.unk ?_) (by repeat' first | exact AH.le.refl _ | assumption | (refine AH.le_put ?_ (by first | assumption | exact (AH.blk_put_ne _ _ (by assumption)).trans (by assumption) | exact AH.none_put (by assumption) | exact AH.none_put (AH.none_put (by assumption)) | (simp only [AH.blk_setTok, AH.tok_put] at *; first | assumption | exact AH.none_put (by assumption)))) | (refine AH.le_setTok ?_ (by first | assumption | exact (AH.blk_put_ne _ _ (by assumption)).trans (by assumption) | exact AH.none_put (by assumption) | exact AH.none_put (AH.none_put (by assumption)) | (simp only [AH.blk_setTok, AH.tok_put] at *; first | assumption | exact AH.none_put (by assumption)))) | (refine AH.le_putM ?_ (by first | assumption | exact (AH.mp_putM_ne _ _ (by assumption)).trans (by assumption) | (simp only [AH.mp_put, AH.mp_setTok] at *; assumption)))))
    · rw [if_neg c1] at p1; rw [if_pos c2] at p2
      simp only [hck, hc, i64s_drop h4, prs_drop h3, decide_eq_false c1, decide_eq_true c2, F_ref_backward, g_ref_backward, go_sem, reduceIte, Nat.reduceEqDiff, Nat.reduceAdd, Nat.reduceMul, Nat.reduceSub, reduceCtorEq, Nat.reduceLeDiff, Nat.reduceLT, Int.reduceLT, Int.reduceLE, Int.reduceToNat, Int.reduceAdd, Int.reduceSub, Int.reduceNeg, Int.reduceMul, Int.reduceEq, ← Bool.decide_and, ← Bool.decide_or, ↓tq_n, ↓tq_e, ↓tq_r, ↓bq_n, ↓bq_e, ↓bq_r, ↓rq_n, ↓rq_r, ↓rq_e]
      refine ⟨by rw [inR64]; omega, k + 1, by omega, by omega, ?_⟩
      rw [p1, p2]; exact (GStep.forget (by repeat' first | exact EnvLe.nil _ | refine EnvLe.cons (AV.le.of_eq rfl) ?_ | refine EnvLe.cons (AV.le.undef _) ?_ | refine EnvLe.cons AV.le.unk ?_) (by repeat' first | exact AH.le.refl _ | assumption | (refine AH.le_put ?_ (by first | assumption | exact (AH.blk_put_ne _ _ (by assumption)).trans (by assumption) | exact AH.none_put (by assumption) | exact AH.none_put (AH.none_put (by assumption)) | (simp only [AH.blk_setTok, AH.tok_put] at *; first | assumption | exact AH.none_put (by assumption)))) | (refine AH.le_setTok ?_ (by first | assumption | exact (AH.blk_put_ne _ _ (by assumption)).trans (by assumption) | exact AH.none_put (by assumption) | exact AH.none_put (AH.none_put (by assumption)) | (simp only [AH.blk_setTok, AH.tok_put] at *; first | assumption | exact AH.none_put (by assumption)))) | (refine AH.le_putM ?_ (by first | assumption | exact (AH.mp_putM_ne _ _ (by assumption)).trans (by assumption) | (simp only [AH.mp_put, AH.mp_setTok] at *; assumption)))))
    · rw [if_neg c1] at p1; rw [if_neg c2] at p2
      simp only [hck, hc, i64s_drop h4, prs_drop h3, decide_eq_false c1, decide_eq_false c2, F_ref_backward, g_ref_backward, go_sem, reduceIte, Nat.reduceEqDiff, Nat.reduceAdd, Nat.reduceMul, Nat.reduceSub, reduceCtorEq, Nat.reduceLeDiff, Nat.reduceLT, Int.reduceLT, Int.reduceLE, Int.reduceToNat, Int.reduceAdd, Int.reduceSub, Int.reduceNeg, Int.reduceMul, Int.reduceEq, ← Bool.decide_and, ← Bool.decide_or, ↓tq_n, ↓tq_e, ↓tq_r, ↓bq_n, ↓bq_e, ↓bq_r, ↓rq_n, ↓rq_r, ↓rq_e]
      refine ⟨by rw [inR64]; omega, k + 1, by omega, by omega, ?_⟩
      rw [p1, p2]; exact (GStep.forget (by repeat' first | exact EnvLe.nil _ | refine EnvLe.cons (AV.le.of_eq rfl) ?_ | refine EnvLe.cons (AV.le.undef _) ?_ | refine EnvLe.cons AV.le.unk ?_) (by repeat' first | exact AH.le.refl _ | assumption | (refine AH.le_put ?_ (by first | assumption | exact (AH.blk_put_ne _ _ (by assumption)).trans (by assumption) | exact AH.none_put (by assumption) | exact AH.none_put (AH.none_put (by assumption)) | (simp only [AH.blk_setTok, AH.tok_put] at *; first | assumption | exact AH.none_put (by assumption)))) | (refine AH.le_setTok ?_ (by first | assumption | exact (AH.blk_put_ne _ _ (by assumption)).trans (by assumption) | exact AH.none_put (by assumption) | exact AH.none_put (AH.none_put (by assumption)) | (simp only [AH.blk_setTok, AH.tok_put] at *; first | assumption | exact AH.none_put (by assumption)))) | (refine AH.le_putM ?_ (by first | assumption | exact (AH.mp_putM_ne _ _ (by assumption)).trans (by assumption) | (simp only [AH.mp_put, AH.mp_setTok] at *; assumption)))))
  have h4 : k = o.length := by omega
  subst h4
  by_cases c3 : blR a o i = true
  · have c3' : (psK o (a.getD i (0, 0)).2 o.length : Int) < (psK o (a.getD i (0, 0)).1 o.length : Int) := by
      have := of_decide_eq_true c3
      omega
    rw [if_pos c3] at hsucc
    simp only [c3', F_ref_backward, g_ref_backward, go_sem, reduceIte, Nat.reduceEqDiff, Nat.reduceAdd, Nat.reduceMul, Nat.reduceSub, reduceCtorEq, Nat.reduceLeDiff, Nat.reduceLT, Int.reduceLT, Int.reduceLE, Int.reduceToNat, Int.reduceAdd, Int.reduceSub, Int.reduceNeg, Int.reduceMul, Int.reduceEq, ← Bool.decide_and, ← Bool.decide_or, ↓tq_n, ↓tq_e, ↓tq_r, ↓bq_n, ↓bq_e, ↓bq_r, ↓rq_n, ↓rq_r, ↓rq_e]
    refine ⟨by rw [i64s_len], by omega, by omega, by rw [inR64]; omega, i + 1, by omega, by omega, ?_⟩
    rw [hsucc, nats_append, i64s_append, List.length_append]
    exact (GStep.forget (by repeat' first | exact EnvLe.nil _ | refine EnvLe.cons (AV.le.of_eq rfl) ?_ | refine EnvLe.cons (AV.le.undef _) ?_ | refine EnvLe.cons AV.le.unk ?_) (by repeat' first | exact AH.le.refl _ | assumption | (refine AH.le_put ?_ (by first | assumption | exact (AH.blk_put_ne _ _ (by assumption)).trans (by assumption) | exact AH.none_put (by assumption) | exact AH.none_put (AH.none_put (by assumption)) | (simp only [AH.blk_setTok, AH.tok_put] at *; first | assumption | exact AH.none_put (by assumption)))) | (refine AH.le_setTok ?_ (by first | assumption | exact (AH.blk_put_ne _ _ (by assumption)).trans (by assumption) | exact AH.none_put (by assumption) | exact AH.none_put (AH.none_put (by assumption)) | (simp only [AH.blk_setTok, AH.tok_put] at *; first | assumption | exact AH.none_put (by assumption)))) | (refine AH.le_putM ?_ (by first | assumption | exact (AH.mp_putM_ne _ _ (by assumption)).trans (by assumption) | (simp only [AH.mp_put, AH.mp_setTok] at *; assumption)))))
  · have c3' : ¬ (psK o (a.getD i (0, 0)).2 o.length : Int) < (psK o (a.getD i (0, 0)).1 o.length : Int) := fun hh => c3 (decide_eq_true (by omega))
    rw [if_neg c3] at hsucc
    simp only [c3', F_ref_backward, g_ref_backward, go_sem, reduceIte, Nat.reduceEqDiff, Nat.reduceAdd, Nat.reduceMul, Nat.reduceSub, reduceCtorEq, Nat.reduceLeDiff, Nat.reduceLT, Int.reduceLT, Int.reduceLE, Int.reduceToNat, Int.reduceAdd, Int.reduceSub, Int.reduceNeg, Int.reduceMul, Int.reduceEq, ← Bool.decide_and, ← Bool.decide_or, ↓tq_n, ↓tq_e, ↓tq_r, ↓bq_n, ↓bq_e, ↓bq_r, ↓rq_n, ↓rq_r, ↓rq_e]
    refine ⟨by rw [inR64]; omega, i + 1, by omega, by omega, ?_⟩
    rw [hsucc]
    exact (GStep.forget (by repeat' first | exact EnvLe.nil _ | refine EnvLe.cons (AV.le.of_eq rfl) ?_ | refine EnvLe.cons (AV.le.undef _) ?_ | refine EnvLe.cons AV.le.unk ?_) (by repeat' first | exact AH.le.refl _ | assumption | (refine AH.le_put ?_ (by first | assumption | exact (AH.blk_put_ne _ _ (by assumption)).trans (by assumption) | exact AH.none_put (by assumption) | exact AH.none_put (AH.none_put (by assumption)) | (simp only [AH.blk_setTok, AH.tok_put] at *; first | assumption | exact AH.none_put (by assumption)))) | (refine AH.le_setTok ?_ (by first | assumption | exact (AH.blk_put_ne _ _ (by assumption)).trans (by assumption) | exact AH.none_put (by assumption) | exact AH.none_put (AH.none_put (by assumption)) | (simp only [AH.blk_setTok, AH.tok_put] at *; first | assumption | exact AH.none_put (by assumption)))) | (refine AH.le_putM ?_ (by first | assumption | exact (AH.mp_putM_ne _ _ (by assumption)).trans (by assumption) | (simp only [AH.mp_put, AH.mp_setTok] at *; assumption)))))
theorem r_ref_first (nl1 : Bool) (s : List Int) (tl1 : Tail) (nl2 : Bool) (t : List Int) (tl2 : Tail) (hsl : s.length ≤ 1000) (h : AH) :
    RCall Try.prog n_ref_first [.sl nl1 s.length (i64s s) tl1, .sl nl2 t.length (i64s t) tl2] h (.bool (decide (cmpL s t < 0))) := by
  refine RCall.of hm cF_ref_first (by simp [g_ref_first]) fun hw h' hl => ?_
  simp only [F_ref_first, g_ref_first, go_sem, reduceIte, Nat.reduceEqDiff, Nat.reduceAdd, Nat.reduceMul, Nat.reduceSub, reduceCtorEq, Nat.reduceLeDiff, Nat.reduceLT, Int.reduceLT, Int.reduceLE, Int.reduceToNat, Int.reduceAdd, Int.reduceSub, Int.reduceNeg, Int.reduceMul, Int.reduceEq, ← Bool.decide_and, ← Bool.decide_or, ↓tq_n, ↓tq_e, ↓tq_r, ↓bq_n, ↓bq_e, ↓bq_r, ↓rq_n, ↓rq_r, ↓rq_e]
  refine awp_loop (fun i : Nat => [(0, .sl nl1 s.length (i64s s) tl1), (1, .sl nl2 t.length (i64s t) tl2), (5, I i)]) (fun _ => h') (fun i => i ≤ s.length ∧ i ≤ t.length ∧ cmpL s t = cmpL (s.drop i) (t.drop i)) (fun i => s.length - i) 0 ⟨Nat.zero_le _, Nat.zero_le _, rfl⟩ (GStep.forget (by repeat' first | exact EnvLe.nil _ | refine EnvLe.cons (AV.le.of_eq rfl) ?_ | refine EnvLe.cons (AV.le.undef _) ?_ | refine EnvLe.cons AV.le.unk ?_) (by repeat' first | exact AH.le.refl _ | assumption | (refine AH.le_put ?_ (by first | assumption | exact (AH.blk_put_ne _ _ (by assumption)).trans (by assumption) | exact AH.none_put (by assumption) | exact AH.none_put (AH.none_put (by assumption)) | (simp only [AH.blk_setTok, AH.tok_put] at *; first | assumption | exact AH.none_put (by assumption)))) | (refine AH.le_setTok ?_ (by first | assumption | exact (AH.blk_put_ne _ _ (by assumption)).trans (by assumption) | exact AH.none_put (by assumption) | exact AH.none_put (AH.none_put (by assumption)) | (simp only [AH.blk_setTok, AH.tok_put] at *; first | assumption | exact AH.none_put (by assumption)))) | (refine AH.le_putM ?_ (by first | assumption | exact (AH.mp_putM_ne _ _ (by assumption)).trans (by assumption) | (simp only [AH.mp_put, AH.mp_setTok] at *; assumption))))) fun i hi => .of_vg hm ?_
  obtain ⟨h1, h2, h3⟩ := hi
  by_cases h4 : i < s.length
  · have hc : (i : Int) < (s.length : Int) := by omega
    have d1 := getD_drop s 0 h4
    by_cases h5 : i < t.length
    · have hc3 : (i : Int) < (t.length : Int) := by omega
      have d2 := getD_drop t 0 h5
      rw [d1, d2] at h3
      simp only [cmpL] at h3
      by_cases c1 : s.getD i 0 < t.getD i 0
      · have c0 : ¬ s.getD i 0 = t.getD i 0 := by omega
        rw [if_pos c1] at h3
        simp only [hc, i64s_drop h4, hc3, i64s_drop h5, c0, c1, F_ref_first, g_ref_first, go_sem, reduceIte, Nat.reduceEqDiff, Nat.reduceAdd, Nat.reduceMul, Nat.reduceSub, reduceCtorEq, Nat.reduceLeDiff, Nat.reduceLT, Int.reduceLT, Int.reduceLE, Int.reduceToNat, Int.reduceAdd, Int.reduceSub, Int.reduceNeg, Int.reduceMul, Int.reduceEq, ← Bool.decide_and, ← Bool.decide_or, ↓tq_n, ↓tq_e, ↓tq_r, ↓bq_n, ↓bq_e, ↓bq_r, ↓rq_n, ↓rq_r, ↓rq_e]
        exact ret_ok (by rw [h3]; rfl)
      · rw [if_neg c1] at h3
        by_cases c2 : t.getD i 0 < s.getD i 0
        · have c0 : ¬ s.getD i 0 = t.getD i 0 := by omega
          rw [if_pos c2] at h3
          simp only [hc, i64s_drop h4, hc3, i64s_drop h5, c0, c1, F_ref_first, g_ref_first, go_sem, reduceIte, Nat.reduceEqDiff, Nat.reduceAdd, Nat.reduceMul, Nat.reduceSub, reduceCtorEq, Nat.reduceLeDiff, Nat.reduceLT, Int.reduceLT, Int.reduceLE, Int.reduceToNat, Int.reduceAdd, Int.reduceSub, Int.reduceNeg, Int.reduceMul, Int.reduceEq, ← Bool.decide_and, ← Bool.decide_or, ↓tq_n, ↓tq_e, ↓tq_r, ↓bq_n, ↓bq_e, ↓bq_r, ↓rq_n, ↓rq_r, ↓rq_e]
          exact ret_ok (by rw [h3]; rfl)
        · have c0 : s.getD i 0 = t.getD i 0 := by omega
          rw [if_neg c2] at h3
          simp only [hc, i64s_drop h4, hc3, i64s_drop h5, decide_eq_true c0, F_ref_first, g_ref_first, go_sem, reduceIte, Nat.reduceEqDiff, Nat.reduceAdd, Nat.reduceMul, Nat.reduceSub, reduceCtorEq, Nat.reduceLeDiff, Nat.reduceLT, Int.reduceLT, Int.reduceLE, Int.reduceToNat, Int.reduceAdd, Int.reduceSub, Int.reduceNeg, Int.reduceMul, Int.reduceEq, ← Bool.decide_and, ← Bool.decide_or, ↓tq_n, ↓tq_e, ↓tq_r, ↓bq_n, ↓bq_e, ↓bq_r, ↓rq_n, ↓rq_r, ↓rq_e]
          exact ⟨by rw [inR64]; omega, i + 1, ⟨by omega, by omega, h3⟩, by omega, (GStep.forget (by repeat' first | exact EnvLe.nil _ | refine EnvLe.cons (AV.le.of_eq rfl) ?_ | refine EnvLe.cons (AV.le.undef _) ?_ | refine EnvLe.cons AV.le.unk ?_) (by repeat' first | exact AH.le.refl _ | assumption | (refine AH.le_put ?_ (by first | assumption | exact (AH.blk_put_ne _ _ (by assumption)).trans (by assumption) | exact AH.none_put (by assumption) | exact AH.none_put (AH.none_put (by assumption)) | (simp only [AH.blk_setTok, AH.tok_put] at *; first | assumption | exact AH.none_put (by assumption)))) | (refine AH.le_setTok ?_ (by first | assumption | exact (AH.blk_put_ne _ _ (by assumption)).trans (by assumption) | exact AH.none_put (by assumption) | exact AH.none_put (AH.none_put (by assumption)) | (simp only [AH.blk_setTok, AH.tok_put] at *; first | assumption | exact AH.none_put (by assumption)))) | (refine AH.le_putM ?_ (by first | assumption | exact (AH.mp_putM_ne _ _ (by assumption)).trans (by assumption) | (simp only [AH.mp_put, AH.mp_setTok] at *; assumption)))))⟩
    · have hc3 : ¬ (i : Int) < (t.length : Int) := by omega
      have hc4 : ¬ (s.length : Int) < (t.length : Int) := by omega
      simp only [hc, hc3, hc4, F_ref_first, g_ref_first, go_sem, reduceIte, Nat.reduceEqDiff, Nat.reduceAdd, Nat.reduceMul, Nat.reduceSub, reduceCtorEq, Nat.reduceLeDiff, Nat.reduceLT, Int.reduceLT, Int.reduceLE, Int.reduceToNat, Int.reduceAdd, Int.reduceSub, Int.reduceNeg, Int.reduceMul, Int.reduceEq, ← Bool.decide_and, ← Bool.decide_or, ↓tq_n, ↓tq_e, ↓tq_r, ↓bq_n, ↓bq_e, ↓bq_r, ↓rq_n, ↓rq_r, ↓rq_e]
      refine ret_ok ?_
      rw [h3, d1, List.drop_of_length_le (l := t) (by omega)]
      rfl
  · have h6 : i = s.length := by omega
    subst h6
    rw [List.drop_of_length_le (l := s) (Nat.le_refl _)] at h3
    by_cases h7 : s.length < t.length
    · have hc4 : (s.length : Int) < (t.length : Int) := by omega
      simp only [hc4, F_ref_first, g_ref_first, go_sem, reduceIte, Nat.reduceEqDiff, Nat.reduceAdd, Nat.reduceMul, Nat.reduceSub, reduceCtorEq, Nat.reduceLeDiff, Nat.reduceLT, Int.reduceLT, Int.reduceLE, Int.reduceToNat, Int.reduceAdd, Int.reduceSub, Int.reduceNeg, Int.reduceMul, Int.reduceEq, ← Bool.decide_and, ← Bool.decide_or, ↓tq_n, ↓tq_e, ↓tq_r, ↓bq_n, ↓bq_e, ↓bq_r, ↓rq_n, ↓rq_r, ↓rq_e]
      exact ret_ok (by rw [h3, getD_drop t 0 h7]; rfl)
    · have hc4 : ¬ (s.length : Int) < (t.length : Int) := by omega
      simp only [hc4, F_ref_first, g_ref_first, go_sem, reduceIte, Nat.reduceEqDiff, Nat.reduceAdd, Nat.reduceMul, Nat.reduceSub, reduceCtorEq, Nat.reduceLeDiff, Nat.reduceLT, Int.reduceLT, Int.reduceLE, Int.reduceToNat, Int.reduceAdd, Int.reduceSub, Int.reduceNeg, Int.reduceMul, Int.reduceEq, ← Bool.decide_and, ← Bool.decide_or, ↓tq_n, ↓tq_e, ↓tq_r, ↓bq_n, ↓bq_e, ↓bq_r, ↓rq_n, ↓rq_r, ↓rq_e]
      exact ret_ok (by rw [h3, List.drop_of_length_le (l := t) (by omega)]; rfl)
/-- The best so far, in memory. -/
def foC (a : List (Int × Int)) (w : List Int) : Option (List Nat × List Nat) → List AV
  | none => [.sl true 0 [] .unk, .sl true 0 [] .unk, I 0, .bool false]
  | some (p, s) => [.sl (decide (p = [])) p.length (i64s (nats p)) .unk, .sl (decide (s = [])) (nats s).length (i64s (nats s)) .unk, I (bc a w p), .bool true]
end Go.Proofs.Ytemfmnjhhdeedaa
namespace Go.Proofs.Ytemfmnjhhdeedaa
open Go Go.Abs
set_option linter.unusedSimpArgs false
set_option linter.unusedVariables false
set_option maxRecDepth 20000

def dec0 (l : List Nat) : Bool := decide (l.length = 0)
theorem gl_nats (l : List Nat) (tl : Tail) : gl (i64s (nats l)) (nats l).length tl = .sl (decide ((nats l).length = 0)) (nats l).length (i64s (nats l)) tl := rfl
theorem foC_le (a : List (Int × Int)) (w : List Int) (p s : List Nat) (t1 t2 : Tail) : AV.le (.st (foC a w (some (p, s)))) (.st [.sl (decide (p = [])) p.length (i64s (nats p)) t1, .sl (decide (s = [])) (nats s).length (i64s (nats s)) t2, I (bc a w p), .bool true]) :=
  AV.le.stC (.cons AV.le.unk (.cons AV.le.unk (CLe.refl _)))
theorem dec_nil (s : List Nat) : decide ((nats s).length = 0) = decide (s = []) := by cases s <;> simp [nats]
theorem bc_bd {a : List (Int × Int)} {w : List Int} (hw : Wb a w) (p : List Nat) : 0 ≤ bc a w p ∧ bc a w p ≤ 24000000 := sum_bd hw (bB a p) (Nat.le_refl _)
set_option maxHeartbeats 2000000 in
theorem r_ref_search (n : Nat) (n1 : Bool) (a : List (Int × Int)) (u1 : Tail) (n2 : Bool) (w : List Int) (u2 : Tail) (hok : Okc n a w) : ∀ (r : Nat) (nl : Bool) (p : List Nat) (tl : Tail) (b : Option (List Nat × List Nat)), Pre n p → p.length + r = n → nl = decide (p = []) → ∀ h : AH,
    RCall Try.prog n_ref_search [I n, .sl n1 a.length (prs a) u1, .sl n2 w.length (i64s w) u2, .sl nl p.length (i64s (nats p)) tl, .st (foC a w b)] h (.st (foC a w (sF n a w r p b))) := by
  have hw1 := okc_w1 hok
  have he := hok.2.2.1
  have hal := hok.2.1
  have hn9 : n ≤ 9 := by have := hok.1; omega
  intro r
  induction r with
  | zero =>
    intro nl p tl b hp hl hnl h
    refine RCall.of hm cF_ref_search (by simp [g_ref_search]) fun hwf h' hlb => ?_
    subst hnl
    have hsF : sF n a w 0 p b = leaf a w b p := rfl
    have c0 : (p.length : Int) = (n : Int) := by omega
    have hbk := r_ref_backward n1 a u1 (decide (p = [])) (nats p) tl (by omega) (by rw [nats_len]; omega)
    rw [brF_eq he hp (by omega), nats_len] at hbk
    have hcs := r_ref_cost n2 w u2 (decide ((nats (Bl a p)).length = 0)) (nats (Bl a p)) .unk
    have hixB : Ix w.length (nats (Bl a p)) := by
      rw [ix_pw]
      refine ⟨fun x hx => ?_, Bl_asc a p⟩
      obtain ⟨k, rfl, hk⟩ := of_nats hx
      have := (mem_Bl.1 hk).1
      rw [hw1.1]; omega
    have hBl : (nats (Bl a p)).length ≤ 24 := by have := ix_len hixB; rw [hw1.1] at this; omega
    have hcs := hcs hixB (by omega) (fun i => by have := wl_all hok.2.2.2.2 i; omega)
    rw [cs_Bl] at hcs
    have hbcb := bc_bd hw1.wb p
    cases b with
    | none =>
      have hlf : leaf a w none p = some (p, Bl a p) := rfl
      simp only [foC, F_ref_search, g_ref_search, go_sem, reduceIte, Nat.reduceEqDiff, Nat.reduceAdd, Nat.reduceMul, Nat.reduceSub, reduceCtorEq, Nat.reduceLeDiff, Nat.reduceLT, Int.reduceLT, Int.reduceLE, Int.reduceToNat, Int.reduceAdd, Int.reduceSub, Int.reduceNeg, Int.reduceMul, Int.reduceEq, ← Bool.decide_and, ← Bool.decide_or, ↓tq_n, ↓tq_e, ↓tq_r, ↓bq_n, ↓bq_e, ↓bq_r, ↓rq_n, ↓rq_r, ↓rq_e]
      refine AllocG.mk fun b9 hb9 => ?_
      simp only [F_ref_search, g_ref_search, go_sem, reduceIte, Nat.reduceEqDiff, Nat.reduceAdd, Nat.reduceMul, Nat.reduceSub, reduceCtorEq, Nat.reduceLeDiff, Nat.reduceLT, Int.reduceLT, Int.reduceLE, Int.reduceToNat, Int.reduceAdd, Int.reduceSub, Int.reduceNeg, Int.reduceMul, Int.reduceEq, ← Bool.decide_and, ← Bool.decide_or, ↓tq_n, ↓tq_e, ↓tq_r, ↓bq_n, ↓bq_e, ↓bq_r, ↓rq_n, ↓rq_r, ↓rq_e]
      refine AllocG.mk fun b10 hb10 => ?_
      have hne : b10 ≠ b9 := AH.ne_of_put hb10
      have hr9 : ∀ (g : AH) X, (g.put b10 X).blk b9 = g.blk b9 := fun g X => AH.blk_put_ne _ _ (fun hh => hne hh.symm)
      simp only [c0, hr9, F_ref_search, g_ref_search, go_sem, reduceIte, Nat.reduceEqDiff, Nat.reduceAdd, Nat.reduceMul, Nat.reduceSub, reduceCtorEq, Nat.reduceLeDiff, Nat.reduceLT, Int.reduceLT, Int.reduceLE, Int.reduceToNat, Int.reduceAdd, Int.reduceSub, Int.reduceNeg, Int.reduceMul, Int.reduceEq, ← Bool.decide_and, ← Bool.decide_or, ↓tq_n, ↓tq_e, ↓tq_r, ↓bq_n, ↓bq_e, ↓bq_r, ↓rq_n, ↓rq_r, ↓rq_e]
      refine CallG.mk (hbk _) ?_
      simp only [F_ref_search, g_ref_search, go_sem, reduceIte, Nat.reduceEqDiff, Nat.reduceAdd, Nat.reduceMul, Nat.reduceSub, reduceCtorEq, Nat.reduceLeDiff, Nat.reduceLT, Int.reduceLT, Int.reduceLE, Int.reduceToNat, Int.reduceAdd, Int.reduceSub, Int.reduceNeg, Int.reduceMul, Int.reduceEq, ← Bool.decide_and, ← Bool.decide_or, ↓tq_n, ↓tq_e, ↓tq_r, ↓bq_n, ↓bq_e, ↓bq_r, ↓rq_n, ↓rq_r, ↓rq_e]
      refine CallG.mk (hcs _) ?_
      simp only [hr9, gl, F_ref_search, g_ref_search, go_sem, reduceIte, Nat.reduceEqDiff, Nat.reduceAdd, Nat.reduceMul, Nat.reduceSub, reduceCtorEq, Nat.reduceLeDiff, Nat.reduceLT, Int.reduceLT, Int.reduceLE, Int.reduceToNat, Int.reduceAdd, Int.reduceSub, Int.reduceNeg, Int.reduceMul, Int.reduceEq, ← Bool.decide_and, ← Bool.decide_or, ↓tq_n, ↓tq_e, ↓tq_r, ↓bq_n, ↓bq_e, ↓bq_r, ↓rq_n, ↓rq_r, ↓rq_e]
      refine ret_le (by repeat' first | exact AH.le.refl _ | assumption | (refine AH.le_put ?_ (by first | assumption | exact (AH.blk_put_ne _ _ (by assumption)).trans (by assumption) | exact AH.none_put (by assumption) | exact AH.none_put (AH.none_put (by assumption)) | (simp only [AH.blk_setTok, AH.tok_put] at *; first | assumption | exact AH.none_put (by assumption)))) | (refine AH.le_setTok ?_ (by first | assumption | exact (AH.blk_put_ne _ _ (by assumption)).trans (by assumption) | exact AH.none_put (by assumption) | exact AH.none_put (AH.none_put (by assumption)) | (simp only [AH.blk_setTok, AH.tok_put] at *; first | assumption | exact AH.none_put (by assumption)))) | (refine AH.le_putM ?_ (by first | assumption | exact (AH.mp_putM_ne _ _ (by assumption)).trans (by assumption) | (simp only [AH.mp_put, AH.mp_setTok] at *; assumption)))) ?_
      rw [hsF, hlf, dec_nil]
      exact foC_le a w p (Bl a p) tl .unk
    | some q =>
      obtain ⟨q, s⟩ := q
      have hlf : leaf a w (some (q, s)) p = if bc a w p < bc a w q then some (p, Bl a p) else if bc a w p = bc a w q ∧ cmpL (nats (Bl a p)) (nats s) < 0 then some (q, Bl a p) else some (q, s) := rfl
      simp only [foC, F_ref_search, g_ref_search, go_sem, reduceIte, Nat.reduceEqDiff, Nat.reduceAdd, Nat.reduceMul, Nat.reduceSub, reduceCtorEq, Nat.reduceLeDiff, Nat.reduceLT, Int.reduceLT, Int.reduceLE, Int.reduceToNat, Int.reduceAdd, Int.reduceSub, Int.reduceNeg, Int.reduceMul, Int.reduceEq, ← Bool.decide_and, ← Bool.decide_or, ↓tq_n, ↓tq_e, ↓tq_r, ↓bq_n, ↓bq_e, ↓bq_r, ↓rq_n, ↓rq_r, ↓rq_e]
      refine AllocG.mk fun b9 hb9 => ?_
      simp only [F_ref_search, g_ref_search, go_sem, reduceIte, Nat.reduceEqDiff, Nat.reduceAdd, Nat.reduceMul, Nat.reduceSub, reduceCtorEq, Nat.reduceLeDiff, Nat.reduceLT, Int.reduceLT, Int.reduceLE, Int.reduceToNat, Int.reduceAdd, Int.reduceSub, Int.reduceNeg, Int.reduceMul, Int.reduceEq, ← Bool.decide_and, ← Bool.decide_or, ↓tq_n, ↓tq_e, ↓tq_r, ↓bq_n, ↓bq_e, ↓bq_r, ↓rq_n, ↓rq_r, ↓rq_e]
      refine AllocG.mk fun b10 hb10 => ?_
      have hne : b10 ≠ b9 := AH.ne_of_put hb10
      have hr9 : ∀ (g : AH) X, (g.put b10 X).blk b9 = g.blk b9 := fun g X => AH.blk_put_ne _ _ (fun hh => hne hh.symm)
      have hr10 : ∀ (g : AH) X, (g.put b9 X).blk b10 = g.blk b10 := fun g X => AH.blk_put_ne _ _ hne
      simp only [c0, hr9, F_ref_search, g_ref_search, go_sem, reduceIte, Nat.reduceEqDiff, Nat.reduceAdd, Nat.reduceMul, Nat.reduceSub, reduceCtorEq, Nat.reduceLeDiff, Nat.reduceLT, Int.reduceLT, Int.reduceLE, Int.reduceToNat, Int.reduceAdd, Int.reduceSub, Int.reduceNeg, Int.reduceMul, Int.reduceEq, ← Bool.decide_and, ← Bool.decide_or, ↓tq_n, ↓tq_e, ↓tq_r, ↓bq_n, ↓bq_e, ↓bq_r, ↓rq_n, ↓rq_r, ↓rq_e]
      refine CallG.mk (hbk _) ?_
      simp only [F_ref_search, g_ref_search, go_sem, reduceIte, Nat.reduceEqDiff, Nat.reduceAdd, Nat.reduceMul, Nat.reduceSub, reduceCtorEq, Nat.reduceLeDiff, Nat.reduceLT, Int.reduceLT, Int.reduceLE, Int.reduceToNat, Int.reduceAdd, Int.reduceSub, Int.reduceNeg, Int.reduceMul, Int.reduceEq, ← Bool.decide_and, ← Bool.decide_or, ↓tq_n, ↓tq_e, ↓tq_r, ↓bq_n, ↓bq_e, ↓bq_r, ↓rq_n, ↓rq_r, ↓rq_e]
      refine CallG.mk (hcs _) ?_
      by_cases c1 : bc a w p < bc a w q
      · rw [if_pos c1] at hlf
        simp only [hr9, gl, c1, F_ref_search, g_ref_search, go_sem, reduceIte, Nat.reduceEqDiff, Nat.reduceAdd, Nat.reduceMul, Nat.reduceSub, reduceCtorEq, Nat.reduceLeDiff, Nat.reduceLT, Int.reduceLT, Int.reduceLE, Int.reduceToNat, Int.reduceAdd, Int.reduceSub, Int.reduceNeg, Int.reduceMul, Int.reduceEq, ← Bool.decide_and, ← Bool.decide_or, ↓tq_n, ↓tq_e, ↓tq_r, ↓bq_n, ↓bq_e, ↓bq_r, ↓rq_n, ↓rq_r, ↓rq_e]
        refine ret_le (by repeat' first | exact AH.le.refl _ | assumption | (refine AH.le_put ?_ (by first | assumption | exact (AH.blk_put_ne _ _ (by assumption)).trans (by assumption) | exact AH.none_put (by assumption) | exact AH.none_put (AH.none_put (by assumption)) | (simp only [AH.blk_setTok, AH.tok_put] at *; first | assumption | exact AH.none_put (by assumption)))) | (refine AH.le_setTok ?_ (by first | assumption | exact (AH.blk_put_ne _ _ (by assumption)).trans (by assumption) | exact AH.none_put (by assumption) | exact AH.none_put (AH.none_put (by assumption)) | (simp only [AH.blk_setTok, AH.tok_put] at *; first | assumption | exact AH.none_put (by assumption)))) | (refine AH.le_putM ?_ (by first | assumption | exact (AH.mp_putM_ne _ _ (by assumption)).trans (by assumption) | (simp only [AH.mp_put, AH.mp_setTok] at *; assumption)))) ?_
        rw [hsF, hlf, dec_nil]
        exact foC_le a w p (Bl a p) tl .unk
      rw [if_neg c1] at hlf
      by_cases c2 : bc a w p = bc a w q
      case neg =>
        rw [if_neg (fun hh => c2 hh.1)] at hlf
        simp only [hr9, gl, c1, c2, F_ref_search, g_ref_search, go_sem, reduceIte, Nat.reduceEqDiff, Nat.reduceAdd, Nat.reduceMul, Nat.reduceSub, reduceCtorEq, Nat.reduceLeDiff, Nat.reduceLT, Int.reduceLT, Int.reduceLE, Int.reduceToNat, Int.reduceAdd, Int.reduceSub, Int.reduceNeg, Int.reduceMul, Int.reduceEq, ← Bool.decide_and, ← Bool.decide_or, ↓tq_n, ↓tq_e, ↓tq_r, ↓bq_n, ↓bq_e, ↓bq_r, ↓rq_n, ↓rq_r, ↓rq_e]
        refine ret_le (by repeat' first | exact AH.le.refl _ | assumption | (refine AH.le_put ?_ (by first | assumption | exact (AH.blk_put_ne _ _ (by assumption)).trans (by assumption) | exact AH.none_put (by assumption) | exact AH.none_put (AH.none_put (by assumption)) | (simp only [AH.blk_setTok, AH.tok_put] at *; first | assumption | exact AH.none_put (by assumption)))) | (refine AH.le_setTok ?_ (by first | assumption | exact (AH.blk_put_ne _ _ (by assumption)).trans (by assumption) | exact AH.none_put (by assumption) | exact AH.none_put (AH.none_put (by assumption)) | (simp only [AH.blk_setTok, AH.tok_put] at *; first | assumption | exact AH.none_put (by assumption)))) | (refine AH.le_putM ?_ (by first | assumption | exact (AH.mp_putM_ne _ _ (by assumption)).trans (by assumption) | (simp only [AH.mp_put, AH.mp_setTok] at *; assumption)))) ?_
        rw [hsF, hlf]
        exact AV.le.refl _
      simp only [hr9, gl, c1, decide_eq_true c2, F_ref_search, g_ref_search, go_sem, reduceIte, Nat.reduceEqDiff, Nat.reduceAdd, Nat.reduceMul, Nat.reduceSub, reduceCtorEq, Nat.reduceLeDiff, Nat.reduceLT, Int.reduceLT, Int.reduceLE, Int.reduceToNat, Int.reduceAdd, Int.reduceSub, Int.reduceNeg, Int.reduceMul, Int.reduceEq, ← Bool.decide_and, ← Bool.decide_or, ↓tq_n, ↓tq_e, ↓tq_r, ↓bq_n, ↓bq_e, ↓bq_r, ↓rq_n, ↓rq_r, ↓rq_e]
      refine CallG.mk (r_ref_first _ (nats (Bl a p)) .unk _ (nats s) .unk (by omega) _) ?_
      by_cases c3 : cmpL (nats (Bl a p)) (nats s) < 0
      · rw [if_pos ⟨c2, c3⟩] at hlf
        rw [decide_eq_true c3]
        simp only [hr9, gl, hr10, F_ref_search, g_ref_search, go_sem, reduceIte, Nat.reduceEqDiff, Nat.reduceAdd, Nat.reduceMul, Nat.reduceSub, reduceCtorEq, Nat.reduceLeDiff, Nat.reduceLT, Int.reduceLT, Int.reduceLE, Int.reduceToNat, Int.reduceAdd, Int.reduceSub, Int.reduceNeg, Int.reduceMul, Int.reduceEq, ← Bool.decide_and, ← Bool.decide_or, ↓tq_n, ↓tq_e, ↓tq_r, ↓bq_n, ↓bq_e, ↓bq_r, ↓rq_n, ↓rq_r, ↓rq_e]
        have h10 := AH.none_put hb10
        refine ret_le (AH.le_put (AH.le_put (AH.le_put (AH.le_put (AH.le.refl _) hb9) h10) hb9) h10) ?_
        rw [hsF, hlf, dec_nil]
        exact AV.le.refl _
      · rw [if_neg (fun hh => c3 hh.2)] at hlf
        rw [decide_eq_false c3]
        simp only [hr9, gl, F_ref_search, g_ref_search, go_sem, reduceIte, Nat.reduceEqDiff, Nat.reduceAdd, Nat.reduceMul, Nat.reduceSub, reduceCtorEq, Nat.reduceLeDiff, Nat.reduceLT, Int.reduceLT, Int.reduceLE, Int.reduceToNat, Int.reduceAdd, Int.reduceSub, Int.reduceNeg, Int.reduceMul, Int.reduceEq, ← Bool.decide_and, ← Bool.decide_or, ↓tq_n, ↓tq_e, ↓tq_r, ↓bq_n, ↓bq_e, ↓bq_r, ↓rq_n, ↓rq_r, ↓rq_e]
        refine ret_le (by repeat' first | exact AH.le.refl _ | assumption | (refine AH.le_put ?_ (by first | assumption | exact (AH.blk_put_ne _ _ (by assumption)).trans (by assumption) | exact AH.none_put (by assumption) | exact AH.none_put (AH.none_put (by assumption)) | (simp only [AH.blk_setTok, AH.tok_put] at *; first | assumption | exact AH.none_put (by assumption)))) | (refine AH.le_setTok ?_ (by first | assumption | exact (AH.blk_put_ne _ _ (by assumption)).trans (by assumption) | exact AH.none_put (by assumption) | exact AH.none_put (AH.none_put (by assumption)) | (simp only [AH.blk_setTok, AH.tok_put] at *; first | assumption | exact AH.none_put (by assumption)))) | (refine AH.le_putM ?_ (by first | assumption | exact (AH.mp_putM_ne _ _ (by assumption)).trans (by assumption) | (simp only [AH.mp_put, AH.mp_setTok] at *; assumption)))) ?_
        rw [hsF, hlf]
        exact AV.le.refl _
  | succ r ih =>
    intro nl p tl b hp hl hnl h
    refine RCall.of hm cF_ref_search (by simp [g_ref_search]) fun hwf h' hlb => ?_
    subst hnl
    have hsF : sF n a w (r + 1) p b = sK n a w r p b n := rfl
    have c0 : ¬ (p.length : Int) = (n : Int) := by omega
    have hgen : ∀ b, (foC a w b).length = 4 ∧ allOne (foC a w b) = true := fun b => by
      cases b with
      | none => exact ⟨rfl, rfl⟩
      | some q => exact ⟨rfl, rfl⟩
    simp only [(hgen b).1, (hgen b).2, F_ref_search, g_ref_search, go_sem, reduceIte, Nat.reduceEqDiff, Nat.reduceAdd, Nat.reduceMul, Nat.reduceSub, reduceCtorEq, Nat.reduceLeDiff, Nat.reduceLT, Int.reduceLT, Int.reduceLE, Int.reduceToNat, Int.reduceAdd, Int.reduceSub, Int.reduceNeg, Int.reduceMul, Int.reduceEq, ← Bool.decide_and, ← Bool.decide_or, ↓tq_n, ↓tq_e, ↓tq_r, ↓bq_n, ↓bq_e, ↓bq_r, ↓rq_n, ↓rq_r, ↓rq_e]
    refine AllocG.mk fun b9 hb9 => ?_
    simp only [F_ref_search, g_ref_search, go_sem, reduceIte, Nat.reduceEqDiff, Nat.reduceAdd, Nat.reduceMul, Nat.reduceSub, reduceCtorEq, Nat.reduceLeDiff, Nat.reduceLT, Int.reduceLT, Int.reduceLE, Int.reduceToNat, Int.reduceAdd, Int.reduceSub, Int.reduceNeg, Int.reduceMul, Int.reduceEq, ← Bool.decide_and, ← Bool.decide_or, ↓tq_n, ↓tq_e, ↓tq_r, ↓bq_n, ↓bq_e, ↓bq_r, ↓rq_n, ↓rq_r, ↓rq_e]
    refine AllocG.mk fun b10 hb10 => ?_
    have hne : b10 ≠ b9 := AH.ne_of_put hb10
    have h10 := AH.none_put hb10
    simp only [c0, F_ref_search, g_ref_search, go_sem, reduceIte, Nat.reduceEqDiff, Nat.reduceAdd, Nat.reduceMul, Nat.reduceSub, reduceCtorEq, Nat.reduceLeDiff, Nat.reduceLT, Int.reduceLT, Int.reduceLE, Int.reduceToNat, Int.reduceAdd, Int.reduceSub, Int.reduceNeg, Int.reduceMul, Int.reduceEq, ← Bool.decide_and, ← Bool.decide_or, ↓tq_n, ↓tq_e, ↓tq_r, ↓bq_n, ↓bq_e, ↓bq_r, ↓rq_n, ↓rq_r, ↓rq_e]
    rw [AH.put_comm _ _ _ (fun hh => hne hh.symm)]
    refine awp_loop (fun i : Nat => [(0, I n), (1, .sl n1 a.length (prs a) u1), (2, .sl n2 w.length (i64s w) u2), (3, .sl (decide (p = [])) p.length (i64s (nats p)) tl), (9, .ptr b9 0), (10, .ptr b10 0), (13, I i)]) (fun i => (h'.put b10 [.sl true 0 [] .full, .sl true 0 [] .full, I 0, .bool false]).put b9 (foC a w (sK n a w r p b i))) (fun i => i ≤ n) (fun i => n - i) 0 (Nat.zero_le _) (GStep.forget (by repeat' first | exact EnvLe.nil _ | refine EnvLe.cons (AV.le.of_eq rfl) ?_ | refine EnvLe.cons (AV.le.undef _) ?_ | refine EnvLe.cons AV.le.unk ?_) (by repeat' first | exact AH.le.refl _ | assumption | (refine AH.le_put ?_ (by first | assumption | exact (AH.blk_put_ne _ _ (by assumption)).trans (by assumption) | exact AH.none_put (by assumption) | exact AH.none_put (AH.none_put (by assumption)) | (simp only [AH.blk_setTok, AH.tok_put] at *; first | assumption | exact AH.none_put (by assumption)))) | (refine AH.le_setTok ?_ (by first | assumption | exact (AH.blk_put_ne _ _ (by assumption)).trans (by assumption) | exact AH.none_put (by assumption) | exact AH.none_put (AH.none_put (by assumption)) | (simp only [AH.blk_setTok, AH.tok_put] at *; first | assumption | exact AH.none_put (by assumption)))) | (refine AH.le_putM ?_ (by first | assumption | exact (AH.mp_putM_ne _ _ (by assumption)).trans (by assumption) | (simp only [AH.mp_put, AH.mp_setTok] at *; assumption))))) fun i hi => .of_vg hm ?_
    have hr10 : ∀ (g : AH) X, (g.put b9 X).blk b10 = g.blk b10 := fun g X => AH.blk_put_ne _ _ hne
    have hr9 : ∀ (g : AH) X, (g.put b10 X).blk b9 = g.blk b9 := fun g X => AH.blk_put_ne _ _ (fun hh => hne hh.symm)
    have hsucc := sK_succ n a w r p b i
    by_cases h3 : i < n
    case neg =>
      have h3 : i = n := by omega
      subst h3
      rw [← hsF]
      have fin : ∀ (X : Option (List Nat × List Nat)) (Y : List AV), h'.le (((h'.put b10 [.sl true 0 [] .full, .sl true 0 [] .full, I 0, .bool false]).put b9 (foC a w X)).put b10 Y) := fun X Y =>
        AH.le_put (AH.le_put (AH.le_put (AH.le.refl _) h10) hb9) h10
      cases hs : sF i a w (r + 1) p b with
      | none =>
        simp only [foC, hr10, hr9, F_ref_search, g_ref_search, go_sem, reduceIte, Nat.reduceEqDiff, Nat.reduceAdd, Nat.reduceMul, Nat.reduceSub, reduceCtorEq, Nat.reduceLeDiff, Nat.reduceLT, Int.reduceLT, Int.reduceLE, Int.reduceToNat, Int.reduceAdd, Int.reduceSub, Int.reduceNeg, Int.reduceMul, Int.reduceEq, ← Bool.decide_and, ← Bool.decide_or, ↓tq_n, ↓tq_e, ↓tq_r, ↓bq_n, ↓bq_e, ↓bq_r, ↓rq_n, ↓rq_r, ↓rq_e]
        exact ret_le (fin none _) (AV.le.refl _)
      | some q =>
        obtain ⟨q, s⟩ := q
        simp only [foC, hr10, hr9, F_ref_search, g_ref_search, go_sem, reduceIte, Nat.reduceEqDiff, Nat.reduceAdd, Nat.reduceMul, Nat.reduceSub, reduceCtorEq, Nat.reduceLeDiff, Nat.reduceLT, Int.reduceLT, Int.reduceLE, Int.reduceToNat, Int.reduceAdd, Int.reduceSub, Int.reduceNeg, Int.reduceMul, Int.reduceEq, ← Bool.decide_and, ← Bool.decide_or, ↓tq_n, ↓tq_e, ↓tq_r, ↓bq_n, ↓bq_e, ↓bq_r, ↓rq_n, ↓rq_r, ↓rq_e]
        exact ret_le (fin (some (q, s)) _) (AV.le.refl _)
    have hc : (i : Int) < (n : Int) := by omega
    have hnl := nats_len p
    simp only [hc, F_ref_search, g_ref_search, go_sem, reduceIte, Nat.reduceEqDiff, Nat.reduceAdd, Nat.reduceMul, Nat.reduceSub, reduceCtorEq, Nat.reduceLeDiff, Nat.reduceLT, Int.reduceLT, Int.reduceLE, Int.reduceToNat, Int.reduceAdd, Int.reduceSub, Int.reduceNeg, Int.reduceMul, Int.reduceEq, ← Bool.decide_and, ← Bool.decide_or, ↓tq_n, ↓tq_e, ↓tq_r, ↓bq_n, ↓bq_e, ↓bq_r, ↓rq_n, ↓rq_r, ↓rq_e]
    have hhas := r_base_Has (decide (p = [])) (nats p) tl (i : Int)
    rw [hnl] at hhas
    refine CallG.mk (hhas _) ?_
    by_cases hin : i ∈ p
    · rw [if_pos hin] at hsucc
      have hd := decide_eq_true (mem_nats.2 hin)
      rw [hd]
      simp only [F_ref_search, g_ref_search, go_sem, reduceIte, Nat.reduceEqDiff, Nat.reduceAdd, Nat.reduceMul, Nat.reduceSub, reduceCtorEq, Nat.reduceLeDiff, Nat.reduceLT, Int.reduceLT, Int.reduceLE, Int.reduceToNat, Int.reduceAdd, Int.reduceSub, Int.reduceNeg, Int.reduceMul, Int.reduceEq, ← Bool.decide_and, ← Bool.decide_or, ↓tq_n, ↓tq_e, ↓tq_r, ↓bq_n, ↓bq_e, ↓bq_r, ↓rq_n, ↓rq_r, ↓rq_e]
      refine ⟨by rw [inR64]; omega, i + 1, by omega, by omega, ?_⟩
      rw [hsucc]
      exact (GStep.forget (by repeat' first | exact EnvLe.nil _ | refine EnvLe.cons (AV.le.of_eq rfl) ?_ | refine EnvLe.cons (AV.le.undef _) ?_ | refine EnvLe.cons AV.le.unk ?_) (by repeat' first | exact AH.le.refl _ | assumption | (refine AH.le_put ?_ (by first | assumption | exact (AH.blk_put_ne _ _ (by assumption)).trans (by assumption) | exact AH.none_put (by assumption) | exact AH.none_put (AH.none_put (by assumption)) | (simp only [AH.blk_setTok, AH.tok_put] at *; first | assumption | exact AH.none_put (by assumption)))) | (refine AH.le_setTok ?_ (by first | assumption | exact (AH.blk_put_ne _ _ (by assumption)).trans (by assumption) | exact AH.none_put (by assumption) | exact AH.none_put (AH.none_put (by assumption)) | (simp only [AH.blk_setTok, AH.tok_put] at *; first | assumption | exact AH.none_put (by assumption)))) | (refine AH.le_putM ?_ (by first | assumption | exact (AH.mp_putM_ne _ _ (by assumption)).trans (by assumption) | (simp only [AH.mp_put, AH.mp_setTok] at *; assumption)))))
    rw [if_neg hin] at hsucc
    have hd := decide_eq_false (fun hh : (i : Int) ∈ nats p => hin (mem_nats.1 hh))
    rw [hd]
    have hps := hp.snoc h3 hin
    have ee : i64s (nats p) ++ [AV.int IntKind.i64 (i : Int)] = i64s (nats (p ++ [i])) := by rw [nats_append, i64s_append]; rfl
    have hd2 : (false : Bool) = decide (p ++ [i] = []) := by simp
    have hrec := fun t g X => ih false (p ++ [i]) (.tok t) X hps (by simp; omega) hd2 g
    have hspl : ∀ (c1 c2 c3 c4 : AV) (X : Option (List Nat × List Nat)), spl [c1, c2, c3, c4] 0 (foC a w X) = foC a w X := fun c1 c2 c3 c4 X => by cases X <;> rfl
    have hlen1 : ∀ t, AV.sl false (p.length + 1) (i64s (nats (p ++ [i]))) (.tok t) = AV.sl false (p ++ [i]).length (i64s (nats (p ++ [i]))) (.tok t) := fun t => by rw [List.length_append]; rfl
    cases hs : sK n a w r p b i with
    | none =>
      rw [hs] at hsucc
      simp only [foC, F_ref_search, g_ref_search, go_sem, reduceIte, Nat.reduceEqDiff, Nat.reduceAdd, Nat.reduceMul, Nat.reduceSub, reduceCtorEq, Nat.reduceLeDiff, Nat.reduceLT, Int.reduceLT, Int.reduceLE, Int.reduceToNat, Int.reduceAdd, Int.reduceSub, Int.reduceNeg, Int.reduceMul, Int.reduceEq, ← Bool.decide_and, ← Bool.decide_or, ↓tq_n, ↓tq_e, ↓tq_r, ↓bq_n, ↓bq_e, ↓bq_r, ↓rq_n, ↓rq_r, ↓rq_e]
      refine ⟨by rw [i64s_len, hnl], by omega, by omega, TokG.mk fun t ht => ?_⟩
      simp only [F_ref_search, g_ref_search, go_sem, reduceIte, Nat.reduceEqDiff, Nat.reduceAdd, Nat.reduceMul, Nat.reduceSub, reduceCtorEq, Nat.reduceLeDiff, Nat.reduceLT, Int.reduceLT, Int.reduceLE, Int.reduceToNat, Int.reduceAdd, Int.reduceSub, Int.reduceNeg, Int.reduceMul, Int.reduceEq, ← Bool.decide_and, ← Bool.decide_or, ↓tq_n, ↓tq_e, ↓tq_r, ↓bq_n, ↓bq_e, ↓bq_r, ↓rq_n, ↓rq_r, ↓rq_e]
      refine ⟨by rw [i64s_len, hnl], by omega, by omega, ?_⟩
      rw [ee]
      have := hrec t (((h'.put b10 [.sl true 0 [] .full, .sl true 0 [] .full, I 0, .bool false]).put b9 (foC a w none)).setTok t (p.length + 1) 1) none
      rw [← hlen1] at this
      refine CallG.mk this ?_
      have hg := hgen (sF n a w r (p ++ [i]) none)
      obtain ⟨hg1, hg2⟩ := hg
      simp only [hg1, hg2, F_ref_search, g_ref_search, go_sem, reduceIte, Nat.reduceEqDiff, Nat.reduceAdd, Nat.reduceMul, Nat.reduceSub, reduceCtorEq, Nat.reduceLeDiff, Nat.reduceLT, Int.reduceLT, Int.reduceLE, Int.reduceToNat, Int.reduceAdd, Int.reduceSub, Int.reduceNeg, Int.reduceMul, Int.reduceEq, ← Bool.decide_and, ← Bool.decide_or, ↓tq_n, ↓tq_e, ↓tq_r, ↓bq_n, ↓bq_e, ↓bq_r, ↓rq_n, ↓rq_r, ↓rq_e]
      refine ⟨by rw [inR64]; omega, i + 1, by omega, by omega, ?_⟩
      rw [hsucc, hspl]
      exact GStep.forget (by repeat' first | exact EnvLe.nil _ | refine EnvLe.cons (AV.le.of_eq rfl) ?_) (AH.le_put2 (AH.le_put2 (AH.le_setTok (AH.le.refl _) (by exact ht))))
    | some q =>
      obtain ⟨q, s⟩ := q
      rw [hs] at hsucc
      simp only [foC, F_ref_search, g_ref_search, go_sem, reduceIte, Nat.reduceEqDiff, Nat.reduceAdd, Nat.reduceMul, Nat.reduceSub, reduceCtorEq, Nat.reduceLeDiff, Nat.reduceLT, Int.reduceLT, Int.reduceLE, Int.reduceToNat, Int.reduceAdd, Int.reduceSub, Int.reduceNeg, Int.reduceMul, Int.reduceEq, ← Bool.decide_and, ← Bool.decide_or, ↓tq_n, ↓tq_e, ↓tq_r, ↓bq_n, ↓bq_e, ↓bq_r, ↓rq_n, ↓rq_r, ↓rq_e]
      refine ⟨by rw [i64s_len, hnl], by omega, by omega, TokG.mk fun t ht => ?_⟩
      simp only [F_ref_search, g_ref_search, go_sem, reduceIte, Nat.reduceEqDiff, Nat.reduceAdd, Nat.reduceMul, Nat.reduceSub, reduceCtorEq, Nat.reduceLeDiff, Nat.reduceLT, Int.reduceLT, Int.reduceLE, Int.reduceToNat, Int.reduceAdd, Int.reduceSub, Int.reduceNeg, Int.reduceMul, Int.reduceEq, ← Bool.decide_and, ← Bool.decide_or, ↓tq_n, ↓tq_e, ↓tq_r, ↓bq_n, ↓bq_e, ↓bq_r, ↓rq_n, ↓rq_r, ↓rq_e]
      refine ⟨by rw [i64s_len, hnl], by omega, by omega, ?_⟩
      rw [ee]
      have := hrec t (((h'.put b10 [.sl true 0 [] .full, .sl true 0 [] .full, I 0, .bool false]).put b9 (foC a w (some (q, s)))).setTok t (p.length + 1) 1) (some (q, s))
      rw [← hlen1] at this
      refine CallG.mk this ?_
      have hg := hgen (sF n a w r (p ++ [i]) (some (q, s)))
      obtain ⟨hg1, hg2⟩ := hg
      simp only [hg1, hg2, F_ref_search, g_ref_search, go_sem, reduceIte, Nat.reduceEqDiff, Nat.reduceAdd, Nat.reduceMul, Nat.reduceSub, reduceCtorEq, Nat.reduceLeDiff, Nat.reduceLT, Int.reduceLT, Int.reduceLE, Int.reduceToNat, Int.reduceAdd, Int.reduceSub, Int.reduceNeg, Int.reduceMul, Int.reduceEq, ← Bool.decide_and, ← Bool.decide_or, ↓tq_n, ↓tq_e, ↓tq_r, ↓bq_n, ↓bq_e, ↓bq_r, ↓rq_n, ↓rq_r, ↓rq_e]
      refine ⟨by rw [inR64]; omega, i + 1, by omega, by omega, ?_⟩
      rw [hsucc, hspl]
      exact GStep.forget (by repeat' first | exact EnvLe.nil _ | refine EnvLe.cons (AV.le.of_eq rfl) ?_) (AH.le_put2 (AH.le_put2 (AH.le_setTok (AH.le.refl _) (by exact ht))))

theorem r_search_top (n : Nat) (n1 : Bool) (a : List (Int × Int)) (u1 : Tail) (n2 : Bool) (w : List Int) (u2 : Tail) (hok : Okc n a w) (h : AH) :
    RCall Try.prog n_ref_search [I n, .sl n1 a.length (prs a) u1, .sl n2 w.length (i64s w) u2, .sl true 0 [] .full, .st [.sl true 0 [] .full, .sl true 0 [] .full, I 0, .bool false]] h (.st [.sl (decide (gO n a w n [] = [])) (nats (gO n a w n [])).length (i64s (nats (gO n a w n []))) .unk, .sl (decide ((lsK n a w a.length).1 = [])) (nats (lsK n a w a.length).1).length (i64s (nats (lsK n a w a.length).1)) .unk, I (tot n a w), .bool true]) := by
  have hw1 := okc_w1 hok
  have h1 := r_ref_search n n1 a u1 n2 w u2 hok n true [] .full none ⟨by simp, by simp⟩ (by simp) (by simp) h
  obtain ⟨s, e1, e2⟩ := least_same (n := n) hw1
  obtain ⟨s', e1', e3, _⟩ := sF_top (n := n) hw1.ok
  have es : s = (lsK n a w a.length).1 := by
    unfold nats at e2
    exact (List.map_inj_right (fun x y h => by omega)).1 e2
  rw [e1] at h1
  have h2 : foC a w (some (gO n a w n [], s)) = [.sl (decide (gO n a w n [] = [])) (nats (gO n a w n [])).length (i64s (nats (gO n a w n []))) .unk, .sl (decide ((lsK n a w a.length).1 = [])) (nats (lsK n a w a.length).1).length (i64s (nats (lsK n a w a.length).1)) .unk, I (tot n a w), .bool true] := by
    simp only [foC, es, e3, nats_len]
  rw [h2] at h1
  exact RCall.le (.cons (AV.le.refl _) (.cons (AV.le.refl _) (.cons (AV.le.refl _) (.cons (AV.le.refl _) (.cons (AV.le.stC (.cons AV.le.unk (.cons AV.le.unk (CLe.refl _)))) .nil))))) h1
theorem r_ref_Least (n : Int) (n1 : Bool) (a : List (Int × Int)) (u1 : Tail) (n2 : Bool) (w : List Int) (u2 : Tail) (h : AH) : RCall Try.prog n_ref_Least [I n, .sl n1 a.length (prs a) u1, .sl n2 w.length (i64s w) u2] h (leV n a w) := by
  refine RCall.of hm cF_ref_Least (by simp [g_ref_Least]) fun hwf h' hl => ?_
  simp only [F_ref_Least, g_ref_Least, go_sem, reduceIte, Nat.reduceEqDiff, Nat.reduceAdd, Nat.reduceMul, Nat.reduceSub, reduceCtorEq, Nat.reduceLeDiff, Nat.reduceLT, Int.reduceLT, Int.reduceLE, Int.reduceToNat, Int.reduceAdd, Int.reduceSub, Int.reduceNeg, Int.reduceMul, Int.reduceEq, ← Bool.decide_and, ← Bool.decide_or, ↓tq_n, ↓tq_e, ↓tq_r, ↓bq_n, ↓bq_e, ↓bq_r, ↓rq_n, ↓rq_r, ↓rq_e]
  refine CallG.mk (r_ref_check n n1 a u1 n2 w u2 _) ?_
  by_cases c1 : chkE n a w = 0
  case neg =>
    simp only [c1, F_ref_Least, g_ref_Least, go_sem, reduceIte, Nat.reduceEqDiff, Nat.reduceAdd, Nat.reduceMul, Nat.reduceSub, reduceCtorEq, Nat.reduceLeDiff, Nat.reduceLT, Int.reduceLT, Int.reduceLE, Int.reduceToNat, Int.reduceAdd, Int.reduceSub, Int.reduceNeg, Int.reduceMul, Int.reduceEq, ← Bool.decide_and, ← Bool.decide_or, ↓tq_n, ↓tq_e, ↓tq_r, ↓bq_n, ↓bq_e, ↓bq_r, ↓rq_n, ↓rq_r, ↓rq_e]
    exact ret_ok (by simp [leV, c1])
  have hok := chk_ok.1 c1
  obtain ⟨m, rfl⟩ := ev_nat hok.2.2.1
  simp only [c1, F_ref_Least, g_ref_Least, go_sem, reduceIte, Nat.reduceEqDiff, Nat.reduceAdd, Nat.reduceMul, Nat.reduceSub, reduceCtorEq, Nat.reduceLeDiff, Nat.reduceLT, Int.reduceLT, Int.reduceLE, Int.reduceToNat, Int.reduceAdd, Int.reduceSub, Int.reduceNeg, Int.reduceMul, Int.reduceEq, ← Bool.decide_and, ← Bool.decide_or, ↓tq_n, ↓tq_e, ↓tq_r, ↓bq_n, ↓bq_e, ↓bq_r, ↓rq_n, ↓rq_r, ↓rq_e]
  refine CallG.mk (r_search_top m n1 a u1 n2 w u2 hok _) ?_
  simp only [F_ref_Least, g_ref_Least, go_sem, reduceIte, Nat.reduceEqDiff, Nat.reduceAdd, Nat.reduceMul, Nat.reduceSub, reduceCtorEq, Nat.reduceLeDiff, Nat.reduceLT, Int.reduceLT, Int.reduceLE, Int.reduceToNat, Int.reduceAdd, Int.reduceSub, Int.reduceNeg, Int.reduceMul, Int.reduceEq, ← Bool.decide_and, ← Bool.decide_or, ↓tq_n, ↓tq_e, ↓tq_r, ↓bq_n, ↓bq_e, ↓bq_r, ↓rq_n, ↓rq_r, ↓rq_e]
  refine ret_ok ?_
  unfold leV
  rw [if_pos c1, Int.toNat_natCast, gl_nats, dec_nil]
theorem r_ref_Ordered (n : Int) (n1 : Bool) (a : List (Int × Int)) (u1 : Tail) (n2 : Bool) (w : List Int) (u2 : Tail) (h : AH) : RCall Try.prog n_ref_Ordered [I n, .sl n1 a.length (prs a) u1, .sl n2 w.length (i64s w) u2] h (orV n a w) := by
  refine RCall.of hm cF_ref_Ordered (by simp [g_ref_Ordered]) fun hwf h' hl => ?_
  simp only [F_ref_Ordered, g_ref_Ordered, go_sem, reduceIte, Nat.reduceEqDiff, Nat.reduceAdd, Nat.reduceMul, Nat.reduceSub, reduceCtorEq, Nat.reduceLeDiff, Nat.reduceLT, Int.reduceLT, Int.reduceLE, Int.reduceToNat, Int.reduceAdd, Int.reduceSub, Int.reduceNeg, Int.reduceMul, Int.reduceEq, ← Bool.decide_and, ← Bool.decide_or, ↓tq_n, ↓tq_e, ↓tq_r, ↓bq_n, ↓bq_e, ↓bq_r, ↓rq_n, ↓rq_r, ↓rq_e]
  refine CallG.mk (r_ref_check n n1 a u1 n2 w u2 _) ?_
  by_cases c1 : chkE n a w = 0
  case neg =>
    simp only [c1, F_ref_Ordered, g_ref_Ordered, go_sem, reduceIte, Nat.reduceEqDiff, Nat.reduceAdd, Nat.reduceMul, Nat.reduceSub, reduceCtorEq, Nat.reduceLeDiff, Nat.reduceLT, Int.reduceLT, Int.reduceLE, Int.reduceToNat, Int.reduceAdd, Int.reduceSub, Int.reduceNeg, Int.reduceMul, Int.reduceEq, ← Bool.decide_and, ← Bool.decide_or, ↓tq_n, ↓tq_e, ↓tq_r, ↓bq_n, ↓bq_e, ↓bq_r, ↓rq_n, ↓rq_r, ↓rq_e]
    exact ret_ok (by simp [orV, c1])
  have hok := chk_ok.1 c1
  obtain ⟨m, rfl⟩ := ev_nat hok.2.2.1
  simp only [c1, F_ref_Ordered, g_ref_Ordered, go_sem, reduceIte, Nat.reduceEqDiff, Nat.reduceAdd, Nat.reduceMul, Nat.reduceSub, reduceCtorEq, Nat.reduceLeDiff, Nat.reduceLT, Int.reduceLT, Int.reduceLE, Int.reduceToNat, Int.reduceAdd, Int.reduceSub, Int.reduceNeg, Int.reduceMul, Int.reduceEq, ← Bool.decide_and, ← Bool.decide_or, ↓tq_n, ↓tq_e, ↓tq_r, ↓bq_n, ↓bq_e, ↓bq_r, ↓rq_n, ↓rq_r, ↓rq_e]
  refine CallG.mk (r_search_top m n1 a u1 n2 w u2 hok _) ?_
  simp only [F_ref_Ordered, g_ref_Ordered, go_sem, reduceIte, Nat.reduceEqDiff, Nat.reduceAdd, Nat.reduceMul, Nat.reduceSub, reduceCtorEq, Nat.reduceLeDiff, Nat.reduceLT, Int.reduceLT, Int.reduceLE, Int.reduceToNat, Int.reduceAdd, Int.reduceSub, Int.reduceNeg, Int.reduceMul, Int.reduceEq, ← Bool.decide_and, ← Bool.decide_or, ↓tq_n, ↓tq_e, ↓tq_r, ↓bq_n, ↓bq_e, ↓bq_r, ↓rq_n, ↓rq_r, ↓rq_e]
  refine ret_ok ?_
  unfold orV
  rw [if_pos c1, Int.toNat_natCast, gl_nats, dec_nil]
end Go.Proofs.Ytemfmnjhhdeedaa
namespace Go.Proofs.Ytemfmnjhhdeedaa
open Go Go.Abs
set_option linter.unusedSimpArgs false
set_option linter.unusedVariables false
set_option maxRecDepth 20000

theorem r_slices_Values (nl : Bool) (l : List Int) (tl : Tail) (h : AH) : RCall Try.prog n_slices_Values_intX [.sl nl l.length (i64s l) tl] h (.fn 64 [.sptr [.sl nl l.length (i64s l) tl]]) := by
  refine RCall.of hm cF_slices_Values_intX (by simp [g_slices_Values_intX]) fun hw h' hl => ?_
  simp only [F_slices_Values_intX, g_slices_Values_intX, go_sem, reduceIte, Nat.reduceEqDiff, Nat.reduceAdd, Nat.reduceMul, Nat.reduceSub, reduceCtorEq, Nat.reduceLeDiff, Nat.reduceLT, Int.reduceLT, Int.reduceLE, Int.reduceToNat, Int.reduceAdd, Int.reduceSub, Int.reduceNeg, Int.reduceMul, Int.reduceEq, ← Bool.decide_and, ← Bool.decide_or, ↓tq_n, ↓tq_e, ↓tq_r, ↓bq_n, ↓bq_e, ↓bq_r, ↓rq_n, ↓rq_r, ↓rq_e]
  exact ret_ok rfl
/-- An order of the vertices. -/
def Prm (o : List Int) (n : Nat) : Prop := o.length = n ∧ o.Nodup ∧ ∀ x ∈ o, 0 ≤ x ∧ x < n
instance (o : List Int) (n : Nat) : Decidable (Prm o n) := by unfold Prm; infer_instance
theorem ix_srt {o : List Int} {n : Nat} : Ix n (srt o) ↔ o.Nodup ∧ ∀ x ∈ o, 0 ≤ x ∧ x < n := by
  rw [ix_pw]
  constructor
  · rintro ⟨h1, h2⟩
    exact ⟨(srt_perm o).nodup_iff.1 (asc_nodup h2), fun x hx => h1 x (mem_srt.2 hx)⟩
  · rintro ⟨h1, h2⟩
    exact ⟨fun x hx => h2 x (mem_srt.1 hx), srt_ascN h1⟩
theorem prm_pre {o : List Int} {n : Nat} (h : Prm o n) : o = nats (o.map Int.toNat) ∧ Pre n (o.map Int.toNat) ∧ (o.map Int.toNat).length = n := by
  obtain ⟨h1, h2, h3⟩ := h
  refine ⟨?_, ⟨?_, fun v hv => ?_⟩, by simpa using h1⟩
  · unfold nats
    rw [List.map_map]
    refine (List.map_id o).symm.trans (List.map_congr_left fun x hx => ?_)
    have := h3 x hx
    simp only [Function.comp, id]
    omega
  · unfold List.Nodup
    rw [List.pairwise_map]
    refine List.Pairwise.imp_of_mem (fun {x y} hx hy hxy => ?_) h2
    have := h3 x hx
    have := h3 y hy
    omega
  · obtain ⟨x, hx, rfl⟩ := List.mem_map.1 hv
    have := h3 x hx
    omega
theorem prm_of {n : Nat} {q : List Nat} (h : Pre n q) (hl : q.length = n) : Prm (nats q) n := by
  refine ⟨by rw [nats_len]; exact hl, nats_nodup h.1, fun x hx => ?_⟩
  obtain ⟨k, rfl, hk⟩ := of_nats hx
  have := h.2 k hk
  omega
theorem nats_toNat (q : List Nat) : (nats q).map Int.toNat = q := by
  unfold nats
  rw [List.map_map]
  refine Eq.trans (List.map_congr_left fun x _ => ?_) (List.map_id q)
  simp
theorem r_base_Order (nl : Bool) (o : List Int) (tl : Tail) (n : Nat) (hn : n ≤ 1000) (h : AH) : RCall Try.prog n_base_Order [.sl nl o.length (i64s o) tl, I n] h (.bool (decide (Prm o n))) := by
  refine RCall.of hm cF_base_Order (by simp [g_base_Order]) fun hw h' hl => ?_
  by_cases c1 : o.length = n
  case neg =>
    have c1' : ¬ (o.length : Int) = (n : Int) := by omega
    simp only [c1', F_base_Order, g_base_Order, go_sem, reduceIte, Nat.reduceEqDiff, Nat.reduceAdd, Nat.reduceMul, Nat.reduceSub, reduceCtorEq, Nat.reduceLeDiff, Nat.reduceLT, Int.reduceLT, Int.reduceLE, Int.reduceToNat, Int.reduceAdd, Int.reduceSub, Int.reduceNeg, Int.reduceMul, Int.reduceEq, ← Bool.decide_and, ← Bool.decide_or, ↓tq_n, ↓tq_e, ↓tq_r, ↓bq_n, ↓bq_e, ↓bq_r, ↓rq_n, ↓rq_r, ↓rq_e]
    exact ret_ok (by rw [decide_eq_false (fun hp : Prm o n => c1 hp.1)])
  have c1' : (o.length : Int) = (n : Int) := by omega
  simp only [decide_eq_true c1', F_base_Order, g_base_Order, go_sem, reduceIte, Nat.reduceEqDiff, Nat.reduceAdd, Nat.reduceMul, Nat.reduceSub, reduceCtorEq, Nat.reduceLeDiff, Nat.reduceLT, Int.reduceLT, Int.reduceLE, Int.reduceToNat, Int.reduceAdd, Int.reduceSub, Int.reduceNeg, Int.reduceMul, Int.reduceEq, ← Bool.decide_and, ← Bool.decide_or, ↓tq_n, ↓tq_e, ↓tq_r, ↓bq_n, ↓bq_e, ↓bq_r, ↓rq_n, ↓rq_r, ↓rq_e]
  refine awp_loop (fun i : Nat => [(0, .sl nl o.length (i64s o) tl), (1, I n), (5, I i)]) (fun _ => h') (fun i => i ≤ n ∧ ∀ j, j < i → (0 ≤ o.getD j 0 ∧ o.getD j 0 < n) ∧ ∀ k, k < j → o.getD j 0 ≠ o.getD k 0) (fun i => n - i) 0 ⟨Nat.zero_le _, fun j hj => absurd hj (Nat.not_lt_zero _)⟩ (GStep.forget (by repeat' first | exact EnvLe.nil _ | refine EnvLe.cons (AV.le.of_eq rfl) ?_ | refine EnvLe.cons (AV.le.undef _) ?_ | refine EnvLe.cons AV.le.unk ?_) (by repeat' first | exact AH.le.refl _ | assumption | (refine AH.le_put ?_ (by first | assumption | exact (AH.blk_put_ne _ _ (by assumption)).trans (by assumption) | exact AH.none_put (by assumption) | exact AH.none_put (AH.none_put (by assumption)) | (simp only [AH.blk_setTok, AH.tok_put] at *; first | assumption | exact AH.none_put (by assumption)))) | (refine AH.le_setTok ?_ (by first | assumption | exact (AH.blk_put_ne _ _ (by assumption)).trans (by assumption) | exact AH.none_put (by assumption) | exact AH.none_put (AH.none_put (by assumption)) | (simp only [AH.blk_setTok, AH.tok_put] at *; first | assumption | exact AH.none_put (by assumption)))) | (refine AH.le_putM ?_ (by first | assumption | exact (AH.mp_putM_ne _ _ (by assumption)).trans (by assumption) | (simp only [AH.mp_put, AH.mp_setTok] at *; assumption))))) fun i hi => .of_vg hm ?_
  obtain ⟨h1, h2⟩ := hi
  by_cases h3 : i < n
  case neg =>
    have h3 : i = n := by omega
    subst h3
    have c0 : ¬ (i : Int) < (i : Int) := by omega
    simp only [c0, F_base_Order, g_base_Order, go_sem, reduceIte, Nat.reduceEqDiff, Nat.reduceAdd, Nat.reduceMul, Nat.reduceSub, reduceCtorEq, Nat.reduceLeDiff, Nat.reduceLT, Int.reduceLT, Int.reduceLE, Int.reduceToNat, Int.reduceAdd, Int.reduceSub, Int.reduceNeg, Int.reduceMul, Int.reduceEq, ← Bool.decide_and, ← Bool.decide_or, ↓tq_n, ↓tq_e, ↓tq_r, ↓bq_n, ↓bq_e, ↓bq_r, ↓rq_n, ↓rq_r, ↓rq_e]
    refine ret_ok ?_
    rw [decide_eq_true]
    refine ⟨c1, ?_, fun x hx => ?_⟩
    · unfold List.Nodup
      rw [List.pairwise_iff_getElem]
      intro p q hp hq hpq
      have := (h2 q (by omega)).2 p hpq
      simp [List.getD, hp, hq] at this
      exact fun hh => this hh.symm
    · obtain ⟨j, hj, e⟩ := List.getElem_of_mem hx
      have := (h2 j (by omega)).1
      simp [List.getD, hj, e] at this
      exact this
  have hc : (i : Int) < (n : Int) := by omega
  have hco : (i : Int) < (o.length : Int) := by omega
  have hio : i < o.length := by omega
  have no : ¬ ((0 ≤ o.getD i 0 ∧ o.getD i 0 < n) ∧ ∀ k, k < i → o.getD i 0 ≠ o.getD k 0) → decide (Prm o n) = false := fun hn => decide_eq_false fun hp => hn ⟨hp.2.2 _ (mem_getD hio), fun k hk => by
    have := (List.pairwise_iff_getElem.1 hp.2.1) k i (by omega) hio hk
    simp [List.getD, hio, show k < o.length by omega]
    exact fun hh => this hh.symm⟩
  by_cases v1 : o.getD i 0 < 0
  · simp only [hc, hco, i64s_drop hio, v1, F_base_Order, g_base_Order, go_sem, reduceIte, Nat.reduceEqDiff, Nat.reduceAdd, Nat.reduceMul, Nat.reduceSub, reduceCtorEq, Nat.reduceLeDiff, Nat.reduceLT, Int.reduceLT, Int.reduceLE, Int.reduceToNat, Int.reduceAdd, Int.reduceSub, Int.reduceNeg, Int.reduceMul, Int.reduceEq, ← Bool.decide_and, ← Bool.decide_or, ↓tq_n, ↓tq_e, ↓tq_r, ↓bq_n, ↓bq_e, ↓bq_r, ↓rq_n, ↓rq_r, ↓rq_e]
    exact ret_ok (by rw [no (fun hh => by have := hh.1; omega)])
  by_cases v2 : (n : Int) ≤ o.getD i 0
  · simp only [hc, hco, i64s_drop hio, v1, v2, F_base_Order, g_base_Order, go_sem, reduceIte, Nat.reduceEqDiff, Nat.reduceAdd, Nat.reduceMul, Nat.reduceSub, reduceCtorEq, Nat.reduceLeDiff, Nat.reduceLT, Int.reduceLT, Int.reduceLE, Int.reduceToNat, Int.reduceAdd, Int.reduceSub, Int.reduceNeg, Int.reduceMul, Int.reduceEq, ← Bool.decide_and, ← Bool.decide_or, ↓tq_n, ↓tq_e, ↓tq_r, ↓bq_n, ↓bq_e, ↓bq_r, ↓rq_n, ↓rq_r, ↓rq_e]
    exact ret_ok (by rw [no (fun hh => by have := hh.1; omega)])
  simp only [hc, hco, i64s_drop hio, v1, v2, F_base_Order, g_base_Order, go_sem, reduceIte, Nat.reduceEqDiff, Nat.reduceAdd, Nat.reduceMul, Nat.reduceSub, reduceCtorEq, Nat.reduceLeDiff, Nat.reduceLT, Int.reduceLT, Int.reduceLE, Int.reduceToNat, Int.reduceAdd, Int.reduceSub, Int.reduceNeg, Int.reduceMul, Int.reduceEq, ← Bool.decide_and, ← Bool.decide_or, ↓tq_n, ↓tq_e, ↓tq_r, ↓bq_n, ↓bq_e, ↓bq_r, ↓rq_n, ↓rq_r, ↓rq_e]
  refine awp_loop (fun k : Nat => [(0, .sl nl o.length (i64s o) tl), (1, I n), (5, I i), (6, I k)]) (fun _ => h') (fun k => k ≤ i ∧ ∀ j, j < k → o.getD i 0 ≠ o.getD j 0) (fun k => i - k) 0 ⟨Nat.zero_le _, fun j hj => absurd hj (Nat.not_lt_zero _)⟩ (GStep.forget (by repeat' first | exact EnvLe.nil _ | refine EnvLe.cons (AV.le.of_eq rfl) ?_ | refine EnvLe.cons (AV.le.undef _) ?_ | refine EnvLe.cons AV.le.unk ?_) (by repeat' first | exact AH.le.refl _ | assumption | (refine AH.le_put ?_ (by first | assumption | exact (AH.blk_put_ne _ _ (by assumption)).trans (by assumption) | exact AH.none_put (by assumption) | exact AH.none_put (AH.none_put (by assumption)) | (simp only [AH.blk_setTok, AH.tok_put] at *; first | assumption | exact AH.none_put (by assumption)))) | (refine AH.le_setTok ?_ (by first | assumption | exact (AH.blk_put_ne _ _ (by assumption)).trans (by assumption) | exact AH.none_put (by assumption) | exact AH.none_put (AH.none_put (by assumption)) | (simp only [AH.blk_setTok, AH.tok_put] at *; first | assumption | exact AH.none_put (by assumption)))) | (refine AH.le_putM ?_ (by first | assumption | exact (AH.mp_putM_ne _ _ (by assumption)).trans (by assumption) | (simp only [AH.mp_put, AH.mp_setTok] at *; assumption))))) fun k hk => .of_vg hm ?_
  obtain ⟨k1, k2⟩ := hk
  by_cases h4 : k < i
  · have hck : (k : Int) < (i : Int) := by omega
    have hko : (k : Int) < (o.length : Int) := by omega
    by_cases v3 : o.getD i 0 = o.getD k 0
    · simp only [hck, hco, hko, i64s_drop hio, i64s_drop (show k < o.length by omega), decide_eq_true v3, F_base_Order, g_base_Order, go_sem, reduceIte, Nat.reduceEqDiff, Nat.reduceAdd, Nat.reduceMul, Nat.reduceSub, reduceCtorEq, Nat.reduceLeDiff, Nat.reduceLT, Int.reduceLT, Int.reduceLE, Int.reduceToNat, Int.reduceAdd, Int.reduceSub, Int.reduceNeg, Int.reduceMul, Int.reduceEq, ← Bool.decide_and, ← Bool.decide_or, ↓tq_n, ↓tq_e, ↓tq_r, ↓bq_n, ↓bq_e, ↓bq_r, ↓rq_n, ↓rq_r, ↓rq_e]
      exact ret_ok (by rw [no (fun hh => hh.2 k h4 v3)])
    · simp only [hck, hco, hko, i64s_drop hio, i64s_drop (show k < o.length by omega), v3, F_base_Order, g_base_Order, go_sem, reduceIte, Nat.reduceEqDiff, Nat.reduceAdd, Nat.reduceMul, Nat.reduceSub, reduceCtorEq, Nat.reduceLeDiff, Nat.reduceLT, Int.reduceLT, Int.reduceLE, Int.reduceToNat, Int.reduceAdd, Int.reduceSub, Int.reduceNeg, Int.reduceMul, Int.reduceEq, ← Bool.decide_and, ← Bool.decide_or, ↓tq_n, ↓tq_e, ↓tq_r, ↓bq_n, ↓bq_e, ↓bq_r, ↓rq_n, ↓rq_r, ↓rq_e]
      exact ⟨by rw [inR64]; omega, k + 1, ⟨by omega, all_succ k2 v3⟩, by omega, (GStep.forget (by repeat' first | exact EnvLe.nil _ | refine EnvLe.cons (AV.le.of_eq rfl) ?_ | refine EnvLe.cons (AV.le.undef _) ?_ | refine EnvLe.cons AV.le.unk ?_) (by repeat' first | exact AH.le.refl _ | assumption | (refine AH.le_put ?_ (by first | assumption | exact (AH.blk_put_ne _ _ (by assumption)).trans (by assumption) | exact AH.none_put (by assumption) | exact AH.none_put (AH.none_put (by assumption)) | (simp only [AH.blk_setTok, AH.tok_put] at *; first | assumption | exact AH.none_put (by assumption)))) | (refine AH.le_setTok ?_ (by first | assumption | exact (AH.blk_put_ne _ _ (by assumption)).trans (by assumption) | exact AH.none_put (by assumption) | exact AH.none_put (AH.none_put (by assumption)) | (simp only [AH.blk_setTok, AH.tok_put] at *; first | assumption | exact AH.none_put (by assumption)))) | (refine AH.le_putM ?_ (by first | assumption | exact (AH.mp_putM_ne _ _ (by assumption)).trans (by assumption) | (simp only [AH.mp_put, AH.mp_setTok] at *; assumption)))))⟩
  have h4 : k = i := by omega
  subst h4
  have c0 : ¬ (k : Int) < (k : Int) := by omega
  simp only [c0, F_base_Order, g_base_Order, go_sem, reduceIte, Nat.reduceEqDiff, Nat.reduceAdd, Nat.reduceMul, Nat.reduceSub, reduceCtorEq, Nat.reduceLeDiff, Nat.reduceLT, Int.reduceLT, Int.reduceLE, Int.reduceToNat, Int.reduceAdd, Int.reduceSub, Int.reduceNeg, Int.reduceMul, Int.reduceEq, ← Bool.decide_and, ← Bool.decide_or, ↓tq_n, ↓tq_e, ↓tq_r, ↓bq_n, ↓bq_e, ↓bq_r, ↓rq_n, ↓rq_r, ↓rq_e]
  exact ⟨by rw [inR64]; omega, k + 1, ⟨by omega, all_succ h2 ⟨⟨by omega, by omega⟩, k2⟩⟩, by omega, (GStep.forget (by repeat' first | exact EnvLe.nil _ | refine EnvLe.cons (AV.le.of_eq rfl) ?_ | refine EnvLe.cons (AV.le.undef _) ?_ | refine EnvLe.cons AV.le.unk ?_) (by repeat' first | exact AH.le.refl _ | assumption | (refine AH.le_put ?_ (by first | assumption | exact (AH.blk_put_ne _ _ (by assumption)).trans (by assumption) | exact AH.none_put (by assumption) | exact AH.none_put (AH.none_put (by assumption)) | (simp only [AH.blk_setTok, AH.tok_put] at *; first | assumption | exact AH.none_put (by assumption)))) | (refine AH.le_setTok ?_ (by first | assumption | exact (AH.blk_put_ne _ _ (by assumption)).trans (by assumption) | exact AH.none_put (by assumption) | exact AH.none_put (AH.none_put (by assumption)) | (simp only [AH.blk_setTok, AH.tok_put] at *; first | assumption | exact AH.none_put (by assumption)))) | (refine AH.le_putM ?_ (by first | assumption | exact (AH.mp_putM_ne _ _ (by assumption)).trans (by assumption) | (simp only [AH.mp_put, AH.mp_setTok] at *; assumption)))))⟩

def baV (n : Int) (a : List (Int × Int)) (w o : List Int) : AV := if chkE n a w = 0 then (if Prm o n.toNat then .tup [I (bc a w (o.map Int.toNat)), I 0] else .tup [I 0, I 2]) else .tup [I 0, I (chkE n a w)]
theorem take_snoc {q : List Nat} {k : Nat} (hk : k < q.length) : q.take (k + 1) = q.take k ++ [q.getD k 0] := take_getD 0 hk
theorem r_attribution_Back (n : Int) (n1 : Bool) (a : List (Int × Int)) (u1 : Tail) (n2 : Bool) (w : List Int) (u2 : Tail) (n3 : Bool) (o : List Int) (u3 : Tail) (hol : o.length ≤ 1000) (h : AH) : RCall Try.prog n_attribution_Back [I n, .sl n1 a.length (prs a) u1, .sl n2 w.length (i64s w) u2, .sl n3 o.length (i64s o) u3] h (baV n a w o) := by
  refine RCall.of hm cF_attribution_Back (by simp [g_attribution_Back]) fun hwf h' hl => ?_
  have hwo := wf_i64s (hwf _ (.tail _ (.tail _ (.tail _ (.head _)))))
  simp only [F_attribution_Back, g_attribution_Back, go_sem, reduceIte, Nat.reduceEqDiff, Nat.reduceAdd, Nat.reduceMul, Nat.reduceSub, reduceCtorEq, Nat.reduceLeDiff, Nat.reduceLT, Int.reduceLT, Int.reduceLE, Int.reduceToNat, Int.reduceAdd, Int.reduceSub, Int.reduceNeg, Int.reduceMul, Int.reduceEq, ← Bool.decide_and, ← Bool.decide_or, ↓tq_n, ↓tq_e, ↓tq_r, ↓bq_n, ↓bq_e, ↓bq_r, ↓rq_n, ↓rq_r, ↓rq_e]
  refine CallG.mk (r_attribution_check n n1 a u1 n2 w u2 _) ?_
  by_cases c1 : chkE n a w = 0
  case neg =>
    simp only [c1, F_attribution_Back, g_attribution_Back, go_sem, reduceIte, Nat.reduceEqDiff, Nat.reduceAdd, Nat.reduceMul, Nat.reduceSub, reduceCtorEq, Nat.reduceLeDiff, Nat.reduceLT, Int.reduceLT, Int.reduceLE, Int.reduceToNat, Int.reduceAdd, Int.reduceSub, Int.reduceNeg, Int.reduceMul, Int.reduceEq, ← Bool.decide_and, ← Bool.decide_or, ↓tq_n, ↓tq_e, ↓tq_r, ↓bq_n, ↓bq_e, ↓bq_r, ↓rq_n, ↓rq_r, ↓rq_e]
    exact ret_ok (by simp [baV, c1])
  have hok := chk_ok.1 c1
  obtain ⟨m, rfl⟩ := ev_nat hok.2.2.1
  have hw1 := okc_w1 hok
  have he := hok.2.2.1
  have hm9 : m ≤ 9 := by have := hok.1; omega
  by_cases c2 : o.length = m
  case neg =>
    have c2' : ¬ (o.length : Int) = (m : Int) := by omega
    simp only [c1, c2', F_attribution_Back, g_attribution_Back, go_sem, reduceIte, Nat.reduceEqDiff, Nat.reduceAdd, Nat.reduceMul, Nat.reduceSub, reduceCtorEq, Nat.reduceLeDiff, Nat.reduceLT, Int.reduceLT, Int.reduceLE, Int.reduceToNat, Int.reduceAdd, Int.reduceSub, Int.reduceNeg, Int.reduceMul, Int.reduceEq, ← Bool.decide_and, ← Bool.decide_or, ↓tq_n, ↓tq_e, ↓tq_r, ↓bq_n, ↓bq_e, ↓bq_r, ↓rq_n, ↓rq_r, ↓rq_e]
    exact ret_ok (by unfold baV; rw [if_pos c1, Int.toNat_natCast, if_neg (fun hp : Prm o m => c2 hp.1)])
  have c2' : (o.length : Int) = (m : Int) := by omega
  simp only [c1, decide_eq_true c2', F_attribution_Back, g_attribution_Back, go_sem, reduceIte, Nat.reduceEqDiff, Nat.reduceAdd, Nat.reduceMul, Nat.reduceSub, reduceCtorEq, Nat.reduceLeDiff, Nat.reduceLT, Int.reduceLT, Int.reduceLE, Int.reduceToNat, Int.reduceAdd, Int.reduceSub, Int.reduceNeg, Int.reduceMul, Int.reduceEq, ← Bool.decide_and, ← Bool.decide_or, ↓tq_n, ↓tq_e, ↓tq_r, ↓bq_n, ↓bq_e, ↓bq_r, ↓rq_n, ↓rq_r, ↓rq_e]
  refine CallG.mk (r_slices_Values n3 o u3 _) ?_
  simp only [F_attribution_Back, g_attribution_Back, go_sem, reduceIte, Nat.reduceEqDiff, Nat.reduceAdd, Nat.reduceMul, Nat.reduceSub, reduceCtorEq, Nat.reduceLeDiff, Nat.reduceLT, Int.reduceLT, Int.reduceLE, Int.reduceToNat, Int.reduceAdd, Int.reduceSub, Int.reduceNeg, Int.reduceMul, Int.reduceEq, ← Bool.decide_and, ← Bool.decide_or, ↓tq_n, ↓tq_e, ↓tq_r, ↓bq_n, ↓bq_e, ↓bq_r, ↓rq_n, ↓rq_r, ↓rq_e]
  refine CallG.mk (r_slices_Sorted n3 o u3 (fun x hx => hwo x hx) (by omega) _) ?_
  simp only [F_attribution_Back, g_attribution_Back, go_sem, reduceIte, Nat.reduceEqDiff, Nat.reduceAdd, Nat.reduceMul, Nat.reduceSub, reduceCtorEq, Nat.reduceLeDiff, Nat.reduceLT, Int.reduceLT, Int.reduceLE, Int.reduceToNat, Int.reduceAdd, Int.reduceSub, Int.reduceNeg, Int.reduceMul, Int.reduceEq, ← Bool.decide_and, ← Bool.decide_or, ↓tq_n, ↓tq_e, ↓tq_r, ↓bq_n, ↓bq_e, ↓bq_r, ↓rq_n, ↓rq_r, ↓rq_e]
  refine CallG.mk (r_attribution_indices _ (srt o) .unk m _) ?_
  by_cases c3 : Ix m (srt o)
  case neg =>
    rw [decide_eq_false c3]
    simp only [F_attribution_Back, g_attribution_Back, go_sem, reduceIte, Nat.reduceEqDiff, Nat.reduceAdd, Nat.reduceMul, Nat.reduceSub, reduceCtorEq, Nat.reduceLeDiff, Nat.reduceLT, Int.reduceLT, Int.reduceLE, Int.reduceToNat, Int.reduceAdd, Int.reduceSub, Int.reduceNeg, Int.reduceMul, Int.reduceEq, ← Bool.decide_and, ← Bool.decide_or, ↓tq_n, ↓tq_e, ↓tq_r, ↓bq_n, ↓bq_e, ↓bq_r, ↓rq_n, ↓rq_r, ↓rq_e]
    exact ret_ok (by unfold baV; rw [if_pos c1, Int.toNat_natCast, if_neg (fun hp : Prm o m => c3 (ix_srt.2 hp.2))])
  rw [decide_eq_true c3]
  have hp : Prm o m := ⟨c2, ix_srt.1 c3⟩
  obtain ⟨p1, p2, p3⟩ := prm_pre hp
  have hba : baV m a w o = .tup [I (bc a w (o.map Int.toNat)), I 0] := by
    unfold baV; rw [if_pos c1, Int.toNat_natCast, if_pos hp]
  generalize o.map Int.toNat = q at p1 p2 p3 hba
  subst p1
  rw [hba]
  have hnl := nats_len q
  simp only [F_attribution_Back, g_attribution_Back, go_sem, reduceIte, Nat.reduceEqDiff, Nat.reduceAdd, Nat.reduceMul, Nat.reduceSub, reduceCtorEq, Nat.reduceLeDiff, Nat.reduceLT, Int.reduceLT, Int.reduceLE, Int.reduceToNat, Int.reduceAdd, Int.reduceSub, Int.reduceNeg, Int.reduceMul, Int.reduceEq, ← Bool.decide_and, ← Bool.decide_or, ↓tq_n, ↓tq_e, ↓tq_r, ↓bq_n, ↓bq_e, ↓bq_r, ↓rq_n, ↓rq_r, ↓rq_e]
  refine awp_loop (fun k : Nat => [(0, I m), (1, .sl n1 a.length (prs a) u1), (2, .sl n2 w.length (i64s w) u2), (11, I (mk (q.take k))), (12, I (bc a w (q.take k))), (34, .sl n3 (nats q).length (i64s (nats q)) u3), (35, I (nats q).length), (36, I k)]) (fun _ => h') (fun k => k ≤ m) (fun k => m - k) 0 (Nat.zero_le _) (by rw [List.take_zero, bc_nil]; exact (GStep.forget (by repeat' first | exact EnvLe.nil _ | refine EnvLe.cons (AV.le.of_eq rfl) ?_ | refine EnvLe.cons (AV.le.undef _) ?_ | refine EnvLe.cons AV.le.unk ?_) (by repeat' first | exact AH.le.refl _ | assumption | (refine AH.le_put ?_ (by first | assumption | exact (AH.blk_put_ne _ _ (by assumption)).trans (by assumption) | exact AH.none_put (by assumption) | exact AH.none_put (AH.none_put (by assumption)) | (simp only [AH.blk_setTok, AH.tok_put] at *; first | assumption | exact AH.none_put (by assumption)))) | (refine AH.le_setTok ?_ (by first | assumption | exact (AH.blk_put_ne _ _ (by assumption)).trans (by assumption) | exact AH.none_put (by assumption) | exact AH.none_put (AH.none_put (by assumption)) | (simp only [AH.blk_setTok, AH.tok_put] at *; first | assumption | exact AH.none_put (by assumption)))) | (refine AH.le_putM ?_ (by first | assumption | exact (AH.mp_putM_ne _ _ (by assumption)).trans (by assumption) | (simp only [AH.mp_put, AH.mp_setTok] at *; assumption)))))) fun k hk => .of_vg hm ?_
  by_cases h3 : k < m
  case neg =>
    have h3 : k = m := by omega
    subst h3
    have hc : ¬ (k : Int) < ((nats q).length : Int) := by omega
    simp only [hc, F_attribution_Back, g_attribution_Back, go_sem, reduceIte, Nat.reduceEqDiff, Nat.reduceAdd, Nat.reduceMul, Nat.reduceSub, reduceCtorEq, Nat.reduceLeDiff, Nat.reduceLT, Int.reduceLT, Int.reduceLE, Int.reduceToNat, Int.reduceAdd, Int.reduceSub, Int.reduceNeg, Int.reduceMul, Int.reduceEq, ← Bool.decide_and, ← Bool.decide_or, ↓tq_n, ↓tq_e, ↓tq_r, ↓bq_n, ↓bq_e, ↓bq_r, ↓rq_n, ↓rq_r, ↓rq_e]
    refine ret_ok ?_
    rw [List.take_of_length_le (by omega)]
  have hc : (k : Int) < ((nats q).length : Int) := by omega
  have hkq : k < q.length := by omega
  have hkn : k < (nats q).length := by omega
  have eg : (nats q).getD k 0 = ((q.getD k 0 : Nat) : Int) := by simp [nats, List.getD, hkq]
  have hvm : q.getD k 0 < m := p2.2 _ (mem_getD hkq)
  have hts := take_snoc hkq
  have hnt : q.getD k 0 ∉ q.take k := fun hh => by
    rw [List.mem_take_iff_getElem] at hh
    obtain ⟨j, hj, e⟩ := hh
    have := (List.pairwise_iff_getElem.1 p2.1) j k (by omega) hkq (by omega)
    simp [List.getD, hkq] at e
    exact this e
  have hbs := bc_snoc (a := a) (w := w) hnt
  have hms := mk_snoc (q.take k) (q.getD k 0)
  rw [← hts] at hbs hms
  have hmk : mk (q.take k) < 2 ^ m := mk_lt _ fun v hv => p2.2 v (List.mem_of_mem_take hv)
  have hM1 : 2 ^ m ≤ 512 := by
    have : 2 ^ m ≤ 2 ^ 9 := Nat.pow_le_pow_right (by omega) hm9
    simpa using this
  have hb1 := bc_bd hw1.wb (q.take k)
  have hb2 := bc_bd hw1.wb (q.take (k + 1))
  generalize q.getD k 0 = v at eg hvm hnt hbs hms
  have hv0 : (0 : Int) ≤ (v : Int) := by omega
  have e2 := shl_one (i := v) (by omega)
  have hp2 : 2 ^ v < 9223372036854775808 := by
    have : 2 ^ v ≤ 2 ^ 9 := Nat.pow_le_pow_right (by omega) (by omega)
    omega
  have e3 := Abs.bit_or (x := mk (q.take k)) (y := 2 ^ v) (by omega) hp2
  simp only [hc, i64s_drop hkn, eg, F_attribution_Back, g_attribution_Back, go_sem, reduceIte, Nat.reduceEqDiff, Nat.reduceAdd, Nat.reduceMul, Nat.reduceSub, reduceCtorEq, Nat.reduceLeDiff, Nat.reduceLT, Int.reduceLT, Int.reduceLE, Int.reduceToNat, Int.reduceAdd, Int.reduceSub, Int.reduceNeg, Int.reduceMul, Int.reduceEq, ← Bool.decide_and, ← Bool.decide_or, ↓tq_n, ↓tq_e, ↓tq_r, ↓bq_n, ↓bq_e, ↓bq_r, ↓rq_n, ↓rq_r, ↓rq_e]
  refine CallG.mk (r_attribution_backward m n1 a u1 he _ w v (mk (q.take k)) hvm (by omega) hw1.wb _ (Rd.sl _ n2 w u2)) ?_
  simp only [hv0, e2, e3, F_attribution_Back, g_attribution_Back, go_sem, reduceIte, Nat.reduceEqDiff, Nat.reduceAdd, Nat.reduceMul, Nat.reduceSub, reduceCtorEq, Nat.reduceLeDiff, Nat.reduceLT, Int.reduceLT, Int.reduceLE, Int.reduceToNat, Int.reduceAdd, Int.reduceSub, Int.reduceNeg, Int.reduceMul, Int.reduceEq, ← Bool.decide_and, ← Bool.decide_or, ↓tq_n, ↓tq_e, ↓tq_r, ↓bq_n, ↓bq_e, ↓bq_r, ↓rq_n, ↓rq_r, ↓rq_e]
  refine ⟨by rw [inR64]; omega, by rw [inR64]; omega, k + 1, by omega, by omega, ?_⟩
  rw [hbs, hms]
  exact (GStep.forget (by repeat' first | exact EnvLe.nil _ | refine EnvLe.cons (AV.le.of_eq rfl) ?_ | refine EnvLe.cons (AV.le.undef _) ?_ | refine EnvLe.cons AV.le.unk ?_) (by repeat' first | exact AH.le.refl _ | assumption | (refine AH.le_put ?_ (by first | assumption | exact (AH.blk_put_ne _ _ (by assumption)).trans (by assumption) | exact AH.none_put (by assumption) | exact AH.none_put (AH.none_put (by assumption)) | (simp only [AH.blk_setTok, AH.tok_put] at *; first | assumption | exact AH.none_put (by assumption)))) | (refine AH.le_setTok ?_ (by first | assumption | exact (AH.blk_put_ne _ _ (by assumption)).trans (by assumption) | exact AH.none_put (by assumption) | exact AH.none_put (AH.none_put (by assumption)) | (simp only [AH.blk_setTok, AH.tok_put] at *; first | assumption | exact AH.none_put (by assumption)))) | (refine AH.le_putM ?_ (by first | assumption | exact (AH.mp_putM_ne _ _ (by assumption)).trans (by assumption) | (simp only [AH.mp_put, AH.mp_setTok] at *; assumption)))))
theorem r_ref_Back (n : Int) (n1 : Bool) (a : List (Int × Int)) (u1 : Tail) (n2 : Bool) (w : List Int) (u2 : Tail) (n3 : Bool) (o : List Int) (u3 : Tail) (hol : o.length ≤ 1000) (h : AH) : RCall Try.prog n_ref_Back [I n, .sl n1 a.length (prs a) u1, .sl n2 w.length (i64s w) u2, .sl n3 o.length (i64s o) u3] h (baV n a w o) := by
  refine RCall.of hm cF_ref_Back (by simp [g_ref_Back]) fun hwf h' hl => ?_
  simp only [F_ref_Back, g_ref_Back, go_sem, reduceIte, Nat.reduceEqDiff, Nat.reduceAdd, Nat.reduceMul, Nat.reduceSub, reduceCtorEq, Nat.reduceLeDiff, Nat.reduceLT, Int.reduceLT, Int.reduceLE, Int.reduceToNat, Int.reduceAdd, Int.reduceSub, Int.reduceNeg, Int.reduceMul, Int.reduceEq, ← Bool.decide_and, ← Bool.decide_or, ↓tq_n, ↓tq_e, ↓tq_r, ↓bq_n, ↓bq_e, ↓bq_r, ↓rq_n, ↓rq_r, ↓rq_e]
  refine CallG.mk (r_ref_check n n1 a u1 n2 w u2 _) ?_
  by_cases c1 : chkE n a w = 0
  case neg =>
    simp only [c1, F_ref_Back, g_ref_Back, go_sem, reduceIte, Nat.reduceEqDiff, Nat.reduceAdd, Nat.reduceMul, Nat.reduceSub, reduceCtorEq, Nat.reduceLeDiff, Nat.reduceLT, Int.reduceLT, Int.reduceLE, Int.reduceToNat, Int.reduceAdd, Int.reduceSub, Int.reduceNeg, Int.reduceMul, Int.reduceEq, ← Bool.decide_and, ← Bool.decide_or, ↓tq_n, ↓tq_e, ↓tq_r, ↓bq_n, ↓bq_e, ↓bq_r, ↓rq_n, ↓rq_r, ↓rq_e]
    exact ret_ok (by simp [baV, c1])
  have hok := chk_ok.1 c1
  obtain ⟨m, rfl⟩ := ev_nat hok.2.2.1
  have hw1 := okc_w1 hok
  have he := hok.2.2.1
  have hm9 : m ≤ 9 := by have := hok.1; omega
  have hal := hok.2.1
  simp only [c1, F_ref_Back, g_ref_Back, go_sem, reduceIte, Nat.reduceEqDiff, Nat.reduceAdd, Nat.reduceMul, Nat.reduceSub, reduceCtorEq, Nat.reduceLeDiff, Nat.reduceLT, Int.reduceLT, Int.reduceLE, Int.reduceToNat, Int.reduceAdd, Int.reduceSub, Int.reduceNeg, Int.reduceMul, Int.reduceEq, ← Bool.decide_and, ← Bool.decide_or, ↓tq_n, ↓tq_e, ↓tq_r, ↓bq_n, ↓bq_e, ↓bq_r, ↓rq_n, ↓rq_r, ↓rq_e]
  refine CallG.mk (r_base_Order n3 o u3 m (by omega) _) ?_
  by_cases hp : Prm o m
  case neg =>
    rw [decide_eq_false hp]
    simp only [F_ref_Back, g_ref_Back, go_sem, reduceIte, Nat.reduceEqDiff, Nat.reduceAdd, Nat.reduceMul, Nat.reduceSub, reduceCtorEq, Nat.reduceLeDiff, Nat.reduceLT, Int.reduceLT, Int.reduceLE, Int.reduceToNat, Int.reduceAdd, Int.reduceSub, Int.reduceNeg, Int.reduceMul, Int.reduceEq, ← Bool.decide_and, ← Bool.decide_or, ↓tq_n, ↓tq_e, ↓tq_r, ↓bq_n, ↓bq_e, ↓bq_r, ↓rq_n, ↓rq_r, ↓rq_e]
    exact ret_ok (by unfold baV; rw [if_pos c1, Int.toNat_natCast, if_neg hp])
  rw [decide_eq_true hp]
  have hba : baV m a w o = .tup [I (bc a w (o.map Int.toNat)), I 0] := by
    unfold baV; rw [if_pos c1, Int.toNat_natCast, if_pos hp]
  rw [hba]
  simp only [F_ref_Back, g_ref_Back, go_sem, reduceIte, Nat.reduceEqDiff, Nat.reduceAdd, Nat.reduceMul, Nat.reduceSub, reduceCtorEq, Nat.reduceLeDiff, Nat.reduceLT, Int.reduceLT, Int.reduceLE, Int.reduceToNat, Int.reduceAdd, Int.reduceSub, Int.reduceNeg, Int.reduceMul, Int.reduceEq, ← Bool.decide_and, ← Bool.decide_or, ↓tq_n, ↓tq_e, ↓tq_r, ↓bq_n, ↓bq_e, ↓bq_r, ↓rq_n, ↓rq_r, ↓rq_e]
  have hbk := r_ref_backward n1 a u1 n3 o u3 (by omega) hol
  obtain ⟨p1, p2, p3⟩ := prm_pre hp
  rw [show brF a o a.length = Bl a (o.map Int.toNat) by rw [p1, nats_toNat]; exact brF_eq he p2 p3] at hbk
  refine CallG.mk (hbk _) ?_
  simp only [F_ref_Back, g_ref_Back, go_sem, reduceIte, Nat.reduceEqDiff, Nat.reduceAdd, Nat.reduceMul, Nat.reduceSub, reduceCtorEq, Nat.reduceLeDiff, Nat.reduceLT, Int.reduceLT, Int.reduceLE, Int.reduceToNat, Int.reduceAdd, Int.reduceSub, Int.reduceNeg, Int.reduceMul, Int.reduceEq, ← Bool.decide_and, ← Bool.decide_or, ↓tq_n, ↓tq_e, ↓tq_r, ↓bq_n, ↓bq_e, ↓bq_r, ↓rq_n, ↓rq_r, ↓rq_e]
  have hixB : Ix w.length (nats (Bl a (o.map Int.toNat))) := by
    rw [ix_pw]
    refine ⟨fun x hx => ?_, Bl_asc a _⟩
    obtain ⟨k, rfl, hk⟩ := of_nats hx
    have := (mem_Bl.1 hk).1
    rw [hw1.1]; omega
  have hBl : (nats (Bl a (o.map Int.toNat))).length ≤ 24 := by have := ix_len hixB; rw [hw1.1] at this; omega
  have hcs := r_ref_cost n2 w u2 (decide ((nats (Bl a (o.map Int.toNat))).length = 0)) (nats (Bl a (o.map Int.toNat))) .unk hixB (by omega) (fun i => by have := wl_all hok.2.2.2.2 i; omega)
  rw [cs_Bl] at hcs
  refine CallG.mk (hcs _) ?_
  simp only [F_ref_Back, g_ref_Back, go_sem, reduceIte, Nat.reduceEqDiff, Nat.reduceAdd, Nat.reduceMul, Nat.reduceSub, reduceCtorEq, Nat.reduceLeDiff, Nat.reduceLT, Int.reduceLT, Int.reduceLE, Int.reduceToNat, Int.reduceAdd, Int.reduceSub, Int.reduceNeg, Int.reduceMul, Int.reduceEq, ← Bool.decide_and, ← Bool.decide_or, ↓tq_n, ↓tq_e, ↓tq_r, ↓bq_n, ↓bq_e, ↓bq_r, ↓rq_n, ↓rq_r, ↓rq_e]
  exact ret_ok rfl
end Go.Proofs.Ytemfmnjhhdeedaa
namespace Go.Proofs.Ytemfmnjhhdeedaa
open Go Go.Abs
set_option linter.unusedSimpArgs false
set_option linter.unusedVariables false
set_option maxRecDepth 20000

theorem mem_rsK {s : List Int} {i k : Nat} : k ∈ rsK s i ↔ k < i ∧ (k : Int) ∉ s := by
  unfold rsK
  rw [List.mem_filter, List.mem_range]
  simp
section
variable {n : Nat} {a : List (Int × Int)} (he : Ev n a)
include he
/-- Without its backward pieces an order leads on. -/
theorem bl_repairs {q : List Nat} (hq : Pre n q) (hl : q.length = n) {s : List Int} (hs : ∀ i, i < a.length → bB a q i = true → (i : Int) ∈ s) : cyB n (sub a (nats (rsK s a.length))) = false := by
  refine Bool.eq_false_iff.2 fun hc => ?_
  obtain ⟨ks, u, h1, h2, h3⟩ := (cy_iff he (rsK_ix s a.length)).1 hc
  have hpos : ∀ k, k < a.length → (k : Int) ∉ s → psK (nats q) (fr a k : Nat) q.length < psK (nats q) (tt a k : Nat) q.length := fun k hk hn => by
    have hb : bB a q k = false := Bool.eq_false_iff.2 fun hh => hn (hs k hk hh)
    obtain ⟨e1, e2, e3, e4⟩ := ev_k he hk
    rw [← blR_eq he hq hl hk] at hb
    unfold blR at hb
    rw [e1, nats_len, decide_eq_false_iff_not] at hb
    simp only at hb
    obtain ⟨j, hj, ej⟩ := List.getElem_of_mem (full_mem hq hl e3)
    obtain ⟨m, hm, em⟩ := List.getElem_of_mem (full_mem hq hl e2)
    have gj : q.getD j 0 = tt a k := by simp [List.getD, hj, ej]
    have gm : q.getD m 0 = fr a k := by simp [List.getD, hm, em]
    have pj := psK_at hq.1 hj q.length hj (Nat.le_refl _)
    have pm := psK_at hq.1 hm q.length hm (Nat.le_refl _)
    rw [gj] at pj
    rw [gm] at pm
    rcases Nat.lt_trichotomy m j with h | h | h
    · omega
    · subst h; rw [gj] at gm; exact absurd gm.symm e4
    · omega
  have hwalk : ∀ (ks : List Nat) (u v : Nat), ks ≠ [] → IW a u ks v → (∀ k ∈ ks, (k : Int) ∉ s) → psK (nats q) (u : Nat) q.length < psK (nats q) (v : Nat) q.length := by
    intro ks
    induction ks with
    | nil => intro u v h; exact absurd rfl h
    | cons k ks ih =>
      intro u v _ hw hn
      have h4 := hpos k hw.1 (hn k (by simp))
      rw [hw.2.1] at h4
      cases ks with
      | nil => have h5 := hw.2.2; rw [show tt a k = v from h5] at h4; exact h4
      | cons k2 ks =>
        have := ih (tt a k) v (by simp) hw.2.2 (fun j hj => hn j (by simp [hj]))
        omega
  have := hwalk ks u u h1 h2 fun k hk => (mem_rsK.1 (mem_nats.1 (h3 k hk))).2
  omega
/-- What agrees can be put in order. -/
theorem topo {s : List Int} (h : cyB n (sub a (nats (rsK s a.length))) = false) : ∃ o, Pre n o ∧ o.length = n ∧ ∀ i, i < a.length → bB a o i = true → (i : Int) ∈ s := by
  have hix := rsK_ix s a.length
  have hno : ∀ v, v < n → ¬ Way (arcE n (sub a (nats (rsK s a.length)))) v v := fun v hv hw => by
    rw [(cyB_iff (sub_arc he hix)).2 ⟨v, hv, hw⟩] at h
    cases h
  obtain ⟨o, ho⟩ : ∃ o, o = (List.range n).mergeSort fun x y => decide (anc (arcE n (sub a (nats (rsK s a.length)))) n x ≤ anc (arcE n (sub a (nats (rsK s a.length)))) n y) := ⟨_, rfl⟩
  have hperm : o.Perm (List.range n) := by rw [ho]; exact List.mergeSort_perm _ _
  have hsort : o.Pairwise fun x y => anc (arcE n (sub a (nats (rsK s a.length)))) n x ≤ anc (arcE n (sub a (nats (rsK s a.length)))) n y := by
    rw [ho]
    refine (List.pairwise_mergeSort (fun x y z h1 h2 => ?_) (fun x y => ?_) _).imp fun h => of_decide_eq_true h
    · have := of_decide_eq_true h1
      have := of_decide_eq_true h2
      exact decide_eq_true (by omega)
    · rw [Bool.or_eq_true, decide_eq_true_eq, decide_eq_true_eq]
      omega
  refine ⟨o, ⟨hperm.nodup_iff.2 List.nodup_range, fun v hv => List.mem_range.1 (hperm.mem_iff.1 hv)⟩, by rw [hperm.length_eq, List.length_range], fun i hi hb => ?_⟩
  refine Classical.byContradiction fun hn => ?_
  have harc : arcE n (sub a (nats (rsK s a.length))) (fr a i) (tt a i) := (sub_E he hix).2 ⟨i, mem_nats.2 (mem_rsK.2 ⟨hi, hn⟩), hi, rfl, rfl⟩
  have hf := (ev_k he hi).2.1
  have hlt := anc_lt (n := n) hf harc (hno _ hf)
  unfold bB at hb
  obtain ⟨k, h1, h2⟩ := List.any_eq_true.1 hb
  rw [Bool.and_eq_true, decide_eq_true_eq, decide_eq_true_eq, List.mem_take_iff_getElem] at h2
  obtain ⟨h3, j, h4, h5⟩ := h2
  have hk := List.mem_range.1 h1
  have hj : j < o.length := by omega
  have h6 := (List.pairwise_iff_getElem.1 hsort) j k hj hk (by omega)
  rw [h5, show o[k] = fr a i by rw [← h3]; simp [List.getD, hk]] at h6
  omega
end
theorem cs_set {a : List (Int × Int)} {w s : List Int} (h : Ix a.length s) : csK w s s.length = sumK w (fun i => decide ((i : Int) ∈ s)) a.length := by
  have e : s = nats ((List.range a.length).filter fun i : Nat => decide ((i : Int) ∈ s)) := by
    refine asc_ext (ix_pw.1 h).2 ?_ fun x => ?_
    · unfold nats
      rw [List.pairwise_map]
      exact ((List.pairwise_lt_range).sublist List.filter_sublist).imp fun h => by omega
    · constructor
      · intro hx
        have := (ix_pw.1 h).1 x hx
        obtain ⟨k, rfl⟩ : ∃ k : Nat, x = k := ⟨x.toNat, by omega⟩
        exact mem_nats.2 (List.mem_filter.2 ⟨List.mem_range.2 (by omega), decide_eq_true hx⟩)
      · intro hx
        obtain ⟨k, rfl, hk⟩ := of_nats hx
        exact of_decide_eq_true (List.mem_filter.1 hk).2
  have h2 := csK_filter w (fun i : Nat => decide ((i : Int) ∈ s)) a.length
  rw [← e] at h2
  exact h2
theorem Bl_ix (a : List (Int × Int)) (q : List Nat) : Ix a.length (nats (Bl a q)) := by
  rw [ix_pw]
  refine ⟨fun x hx => ?_, Bl_asc a q⟩
  obtain ⟨k, rfl, hk⟩ := of_nats hx
  have := (mem_Bl.1 hk).1
  omega
section
variable {n : Nat} {a : List (Int × Int)} {w : List Int} (hok : Okc n a w)
include hok
/-- What repairs costs at least as much. -/
theorem rp_ge {s : List Int} (h : rpB n a w s = true) : tot n a w ≤ csK w s s.length := by
  obtain ⟨⟨_, hix⟩, hc⟩ := rpB_iff.1 h
  obtain ⟨o, o1, o2, o3⟩ := topo hok.2.2.1 hc
  have h1 := (tot_min (n := n) (okc_w1 hok).ok).2.1 o o1 o2
  rw [cs_set hix]
  have h2 := sumK_sub (w := w) (P := bB a o) (Q := fun i => decide ((i : Int) ∈ s)) (k := a.length) (okc_w1 hok).ok (fun i hi hb => decide_eq_true (o3 i hi hb))
  have : bc a w o = sumK w (bB a o) a.length := rfl
  omega
theorem bl_rp {q : List Nat} (hq : Pre n q) (hl : q.length = n) : rpB n a w (nats (Bl a q)) = true :=
  rpB_iff.2 ⟨⟨hok, Bl_ix a q⟩, bl_repairs hok.2.2.1 hq hl fun i hi hb => mem_nats.2 (mem_Bl.2 ⟨hi, hb⟩)⟩
/-- No part of the cheapest set repairs. -/
theorem less_rp {q : List Nat} (hq : Opt n a w q) {i : Nat} (hi : i < (nats (Bl a q)).length) : rpB n a w ((nats (Bl a q)).eraseIdx i) = false := by
  refine Bool.eq_false_iff.2 fun h => ?_
  have h1 := rp_ge hok h
  have hix := Bl_ix a q
  have hixe := ix_erase hix i
  rw [cs_set hixe] at h1
  have h2 : tot n a w = sumK w (fun i => decide ((i : Int) ∈ nats (Bl a q))) a.length := by
    rw [← cs_set hix, cs_Bl, hq.2.2]
  have hw1 := okc_w1 hok
  obtain ⟨k, hke, hk⟩ := of_nats (mem_getD (d := 0) hi)
  have hka := (mem_Bl.1 hk).1
  have hnot : (k : Int) ∉ (nats (Bl a q)).eraseIdx i := fun hh => by
    rw [List.mem_eraseIdx_iff_getElem] at hh
    obtain ⟨j, hj, hne, e⟩ := hh
    have hnd := asc_nodup (Bl_asc a q)
    have e2 : (nats (Bl a q))[i] = (k : Int) := by rw [← hke]; simp [List.getD, hi]
    rcases Nat.lt_trichotomy i j with h3 | h3 | h3
    · exact (List.pairwise_iff_getElem.1 hnd) i j hi hj h3 (by rw [e2, e])
    · exact hne h3.symm
    · exact (List.pairwise_iff_getElem.1 hnd) j i hj hi h3 (by rw [e2, e])
  have := sumK_lt (w := w) (P := fun i_1 => decide ((i_1 : Int) ∈ (nats (Bl a q)).eraseIdx i)) (Q := fun i => decide ((i : Int) ∈ nats (Bl a q))) (k := a.length) (fun m hm => by have := hw1.2.2 m hm; omega)
    (fun m _ hm => decide_eq_true ((List.eraseIdx_sublist _ i).subset (of_decide_eq_true hm))) hka (decide_eq_true (mem_nats.2 hk)) (decide_eq_false hnot)
  omega
end
/-- A greater weight. -/
theorem tot_more {n : Nat} {a : List (Int × Int)} {w : List Int} (hw : Wb a w) {k : Nat} (hk : k < a.length) {v : Int} (hv : w.getD k 0 ≤ v) (hw2 : Wb a (w.set k v)) : tot n a w ≤ tot n a (w.set k v) ∧ tot n a (w.set k v) ≤ tot n a w + (v - w.getD k 0) := by
  have hset : ∀ j, (w.set k v).getD j 0 = if k = j then v else w.getD j 0 := fun j => getD_setI (by rw [hw.1]; exact hk) v j
  have key : ∀ (P : Nat → Bool) (m : Nat), sumK (w.set k v) P m = sumK w P m + if k < m ∧ P k = true then v - w.getD k 0 else 0 := by
    intro P m
    induction m with
    | zero => simp [sumK]
    | succ m ih =>
      simp only [sumK, ih, hset]
      by_cases h1 : k = m
      · subst h1
        have h5 : ¬ k < k := Nat.lt_irrefl k
        have h6 : k < k + 1 := Nat.lt_succ_self k
        by_cases h2 : P k = true
        · simp only [h2, h5, h6, if_true, false_and, and_self, if_false]
          omega
        · simp only [h2, h5, h6, false_and, and_false, if_false]
          simp
      · have h4 : (k < m + 1) = (k < m) := propext ⟨fun h => by omega, fun h => by omega⟩
        simp only [h1, if_false, h4]
        generalize (if k < m ∧ P k = true then v - w.getD k 0 else 0) = x
        generalize (if P m = true then w.getD m 0 else 0) = y
        omega
  obtain ⟨t1, t2, o, t3, t4, t5⟩ := tot_min (n := n) hw.ok
  obtain ⟨s1, s2, p, s3, s4, s5⟩ := tot_min (n := n) hw2.ok
  have h1 := s2 o t3 t4
  have h2 := t2 p s3 s4
  have h3 : bc a (w.set k v) o = bc a w o + _ := key (bB a o) a.length
  have h4 : bc a (w.set k v) p = bc a w p + _ := key (bB a p) a.length
  constructor
  · rw [← s5, h4]; split <;> omega
  · rw [h3] at h1
    split at h1 <;> omega
end Go.Proofs.Ytemfmnjhhdeedaa
