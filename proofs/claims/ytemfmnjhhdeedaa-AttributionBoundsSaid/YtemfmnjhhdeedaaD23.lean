/- Calls of functions of this seat's program: one smallest contradictory set after the other, as the reference takes them. No condition. -/
import Derived.Test.YtemfmnjhhdeedaaD29
import Derived.Test.YtemfmnjhhdeedaaC13
namespace Go.Proofs.Ytemfmnjhhdeedaa
open Go Go.Abs
set_option linter.unusedSimpArgs false
set_option linter.unusedVariables false
set_option linter.unusedSectionVars false
set_option maxRecDepth 20000

theorem AV_le_cells {nl : Bool} {n : Nat} {cs cs' : List AV} {tl : Tail} (hl : cs'.length = cs.length) (h : ∀ (j : Nat) (x y : AV), cs'[j]? = some x → cs[j]? = some y → AV.le x y) : AV.le (.sl nl n cs' tl) (.sl nl n cs tl) := by
  intro s v hv
  cases hv with
  | sl _ _ _ _ a cap vs hlen hrel hfx hnil hnone hspot hcap hmax htl =>
    refine .sl nl n cs' tl a cap vs (by omega) (fun j x v hx hv => ?_) hfx hnil hnone hspot hcap hmax htl
    have hj : j < cs.length := by rw [← hl]; exact (List.getElem?_eq_some_iff.1 hx).1
    exact h j x _ hx (List.getElem?_eq_getElem hj) s v (hrel j _ v (List.getElem?_eq_getElem hj) hv)
/-- The indices that a set of the rest stands for. -/
def pick (left s : List Int) : List Int := s.map fun k => left.getD k.toNat 0
def lowK (w T : List Int) : Nat → Int
  | 0 => 100
  | k + 1 => min (lowK w T k) (w.getD (T.getD k 0).toNat 0)
def rmv (left T : List Int) : List Int := left.filter fun x => !decide (x ∈ T)
noncomputable def pkF (n : Nat) (a : List (Int × Int)) (w : List Int) : Nat → List Int → List (List Int) × Int
  | 0, _ => ([], 0)
  | f + 1, left => match smF (sub a left) n with
    | none => ([], 0)
    | some s => (pick left s :: (pkF n a w f (rmv left (pick left s))).1, lowK w (pick left s) (pick left s).length + (pkF n a w f (rmv left (pick left s))).2)
theorem sub_ev {n : Nat} {a : List (Int × Int)} (he : Ev n a) {left : List Int} (hl : Ix a.length left) : Ev n (sub a left) := by
  refine ⟨he.1, he.2.1, ?_, fun i hi => ?_⟩
  · rw [sub_len]
    have := ix_len hl
    have := he.2.2.1
    omega
  · rw [sub_len] at hi
    rw [sub_get hi]
    exact he.2.2.2 _ (ix_at hl hi).2.2
section
variable {n : Nat} {a : List (Int × Int)} (he : Ev n a) {left : List Int} (hl : Ix a.length left) {s : List Int} (hs : smF (sub a left) n = some s)
include he hl hs
theorem pk_ix : Ix left.length s ∧ 0 < s.length ∧ Good n (sub a left) s := by
  have hev := sub_ev he hl
  have hf := smF_fst hev hs
  have h1 := hf.1.1
  rw [sub_len] at h1
  refine ⟨h1, ?_, hf.1⟩
  obtain ⟨ks, u, k1, k2, k3⟩ := (cy_iff hev hf.1.1).1 hf.1.2
  cases ks with
  | nil => exact absurd rfl k1
  | cons k ks => exact List.length_pos_of_mem (k3 k (by simp))
theorem pick_len : (pick left s).length = s.length := by simp [pick]
theorem pick_get {i : Nat} (hi : i < s.length) : (pick left s).getD i 0 = left.getD (s.getD i 0).toNat 0 := by simp [pick, List.getD, hi]
theorem pick_mem {x : Int} (hx : x ∈ pick left s) : x ∈ left := by
  unfold pick at hx
  obtain ⟨k, hk, rfl⟩ := List.mem_map.1 hx
  have := (ix_pw.1 (pk_ix he hl hs).1).1 k hk
  exact mem_getD (by omega)
theorem pick_asc : (pick left s).Pairwise (· < ·) := by
  have h1 := (ix_pw.1 (pk_ix he hl hs).1)
  have h2 := (ix_pw.1 hl).2
  unfold pick
  rw [List.pairwise_map]
  refine List.Pairwise.imp_of_mem (fun {x y} hx hy hxy => ?_) h1.2
  have hx := h1.1 x hx
  have hy := h1.1 y hy
  have := (List.pairwise_iff_getElem.1 h2) x.toNat y.toNat (by omega) (by omega) (by omega)
  simpa [List.getD, show x.toNat < left.length by omega, show y.toNat < left.length by omega] using this
theorem pick_ix : Ix a.length (pick left s) := by
  rw [ix_pw]
  exact ⟨fun x hx => (ix_pw.1 hl).1 x (pick_mem he hl hs hx), pick_asc he hl hs⟩
theorem rmv_lt : (rmv left (pick left s)).length < left.length := by
  have h1 := pk_ix he hl hs
  have hm : ∃ x, x ∈ pick left s := List.exists_mem_of_length_pos (by rw [pick_len he hl hs]; exact h1.2.1)
  obtain ⟨x, hx⟩ := hm
  refine List.length_filter_lt_length_iff_exists.2 ⟨x, pick_mem he hl hs hx, ?_⟩
  simp [hx]
omit he hs in
theorem rmv_ix (T : List Int) : Ix a.length (rmv left T) := ix_sub hl List.filter_sublist
end
/-- A list of lists. -/
def lls (O : List (List Int)) : List AV := O.map fun T => .sl false T.length (i64s T) .unk
theorem lls_len (O : List (List Int)) : (lls O).length = O.length := by simp [lls]
theorem lls_app (O : List (List Int)) (T : List Int) : lls (O ++ [T]) = lls O ++ [.sl false T.length (i64s T) .unk] := by simp [lls]
theorem lls_drop {O : List (List Int)} {i : Nat} (h : i < O.length) : (lls O).drop i = .sl false (O.getD i []).length (i64s (O.getD i [])) .unk :: (lls O).drop (i + 1) := by
  have : (lls O).drop i = lls (O.drop i) := by simp [lls, List.map_drop]
  rw [this, getD_drop O [] h]
  simp [lls, List.map_drop]
theorem r_base_Lists (nl1 nl2 : Bool) (O : List (List Int)) (t1 t2 : Tail) (h : AH) : RCall Try.prog n_base_Lists [.sl nl1 O.length (lls O) t1, .sl nl2 O.length (lls O) t2] h (.bool true) := by
  refine RCall.of hm cF_base_Lists (by simp [g_base_Lists]) fun hw h' hl => ?_
  have hx := wf_len (hw _ (.head _))
  have hee : (O.length : Int) = (O.length : Int) := rfl
  simp only [decide_eq_true hee, F_base_Lists, g_base_Lists, go_sem, reduceIte, Nat.reduceEqDiff, Nat.reduceAdd, Nat.reduceMul, Nat.reduceSub, reduceCtorEq, Nat.reduceLeDiff, Nat.reduceLT, Int.reduceLT, Int.reduceLE, Int.reduceToNat, Int.reduceAdd, Int.reduceSub, Int.reduceNeg, Int.reduceMul, Int.reduceEq, ← Bool.decide_and, ← Bool.decide_or, ↓tq_n, ↓tq_e, ↓tq_r, ↓bq_n, ↓bq_e, ↓bq_r, ↓rq_n, ↓rq_r, ↓rq_e]
  refine awp_loop (fun i : Nat => [(0, .sl nl1 O.length (lls O) t1), (1, .sl nl2 O.length (lls O) t2), (5, I i)]) (fun _ => h') (fun i => i ≤ O.length) (fun i => O.length - i) 0 (Nat.zero_le _) (GStep.forget (by repeat' first | exact EnvLe.nil _ | refine EnvLe.cons (AV.le.of_eq rfl) ?_ | refine EnvLe.cons (AV.le.undef _) ?_ | refine EnvLe.cons AV.le.unk ?_) (by repeat' first | exact AH.le.refl _ | assumption | (refine AH.le_put ?_ (by first | assumption | exact (AH.blk_put_ne _ _ (by assumption)).trans (by assumption) | exact AH.none_put (by assumption) | exact AH.none_put (AH.none_put (by assumption)) | (simp only [AH.blk_setTok, AH.tok_put] at *; first | assumption | exact AH.none_put (by assumption)))) | (refine AH.le_setTok ?_ (by first | assumption | exact (AH.blk_put_ne _ _ (by assumption)).trans (by assumption) | exact AH.none_put (by assumption) | exact AH.none_put (AH.none_put (by assumption)) | (simp only [AH.blk_setTok, AH.tok_put] at *; first | assumption | exact AH.none_put (by assumption)))) | (refine AH.le_putM ?_ (by first | assumption | exact (AH.mp_putM_ne _ _ (by assumption)).trans (by assumption) | (simp only [AH.mp_put, AH.mp_setTok] at *; assumption))))) fun i hi => .of_vg hm ?_
  by_cases h3 : i < O.length
  · have hc : (i : Int) < (O.length : Int) := by omega
    simp only [hc, Nat.mul_one, lls_drop h3, F_base_Lists, g_base_Lists, go_sem, reduceIte, Nat.reduceEqDiff, Nat.reduceAdd, Nat.reduceMul, Nat.reduceSub, reduceCtorEq, Nat.reduceLeDiff, Nat.reduceLT, Int.reduceLT, Int.reduceLE, Int.reduceToNat, Int.reduceAdd, Int.reduceSub, Int.reduceNeg, Int.reduceMul, Int.reduceEq, ← Bool.decide_and, ← Bool.decide_or, ↓tq_n, ↓tq_e, ↓tq_r, ↓bq_n, ↓bq_e, ↓bq_r, ↓rq_n, ↓rq_r, ↓rq_e]
    refine CallG.mk (ints_same false false .unk .unk (O.getD i []) _) ?_
    simp only [F_base_Lists, g_base_Lists, go_sem, reduceIte, Nat.reduceEqDiff, Nat.reduceAdd, Nat.reduceMul, Nat.reduceSub, reduceCtorEq, Nat.reduceLeDiff, Nat.reduceLT, Int.reduceLT, Int.reduceLE, Int.reduceToNat, Int.reduceAdd, Int.reduceSub, Int.reduceNeg, Int.reduceMul, Int.reduceEq, ← Bool.decide_and, ← Bool.decide_or, ↓tq_n, ↓tq_e, ↓tq_r, ↓bq_n, ↓bq_e, ↓bq_r, ↓rq_n, ↓rq_r, ↓rq_e]
    exact ⟨by rw [inR64]; omega, i + 1, by omega, by omega, (GStep.forget (by repeat' first | exact EnvLe.nil _ | refine EnvLe.cons (AV.le.of_eq rfl) ?_ | refine EnvLe.cons (AV.le.undef _) ?_ | refine EnvLe.cons AV.le.unk ?_) (by repeat' first | exact AH.le.refl _ | assumption | (refine AH.le_put ?_ (by first | assumption | exact (AH.blk_put_ne _ _ (by assumption)).trans (by assumption) | exact AH.none_put (by assumption) | exact AH.none_put (AH.none_put (by assumption)) | (simp only [AH.blk_setTok, AH.tok_put] at *; first | assumption | exact AH.none_put (by assumption)))) | (refine AH.le_setTok ?_ (by first | assumption | exact (AH.blk_put_ne _ _ (by assumption)).trans (by assumption) | exact AH.none_put (by assumption) | exact AH.none_put (AH.none_put (by assumption)) | (simp only [AH.blk_setTok, AH.tok_put] at *; first | assumption | exact AH.none_put (by assumption)))) | (refine AH.le_putM ?_ (by first | assumption | exact (AH.mp_putM_ne _ _ (by assumption)).trans (by assumption) | (simp only [AH.mp_put, AH.mp_setTok] at *; assumption)))))⟩
  have h3 : i = O.length := by omega
  subst h3
  simp only [F_base_Lists, g_base_Lists, go_sem, reduceIte, Nat.reduceEqDiff, Nat.reduceAdd, Nat.reduceMul, Nat.reduceSub, reduceCtorEq, Nat.reduceLeDiff, Nat.reduceLT, Int.reduceLT, Int.reduceLE, Int.reduceToNat, Int.reduceAdd, Int.reduceSub, Int.reduceNeg, Int.reduceMul, Int.reduceEq, ← Bool.decide_and, ← Bool.decide_or, ↓tq_n, ↓tq_e, ↓tq_r, ↓bq_n, ↓bq_e, ↓bq_r, ↓rq_n, ↓rq_r, ↓rq_e]
  exact ret_ok rfl
noncomputable def pkV (n : Int) (a : List (Int × Int)) (w : List Int) : AV := if chkE n a w = 0 then .tup [gl (lls (pkF n.toNat a w a.length (nats (List.range a.length))).1) (pkF n.toNat a w a.length (nats (List.range a.length))).1.length .unk, I (pkF n.toNat a w a.length (nats (List.range a.length))).2, I 0] else .tup [.sl true 0 [] .full, I 0, I (chkE n a w)]
theorem lowK_bd {w : List Int} (hw : Wl w) (T : List Int) : ∀ k, 0 ≤ lowK w T k ∧ lowK w T k ≤ 100 := by
  intro k
  induction k with
  | zero => simp [lowK]
  | succ k ih =>
    have := wl_all hw (T.getD k 0).toNat
    simp only [lowK]
    omega
theorem sub_take (a : List (Int × Int)) (left : List Int) {i : Nat} (hi : i < left.length) : sub a (left.take (i + 1)) = sub a (left.take i) ++ [a.getD (left.getD i 0).toNat (0, 0)] := by
  unfold sub
  exact take_map_succ (fun k : Int => a.getD k.toNat (0, 0)) 0 hi
end Go.Proofs.Ytemfmnjhhdeedaa
