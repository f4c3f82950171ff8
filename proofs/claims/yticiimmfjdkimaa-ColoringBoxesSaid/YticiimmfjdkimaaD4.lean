/- Coloring a graph: what the reference computes. No condition. -/
import Derived.Test.YticiimmfjdkimaaD3
namespace Go.Proofs.Yticiimmfjdkimaa
open Go Go.Abs
set_option linter.unusedSimpArgs false
set_option linter.unusedVariables false
set_option maxRecDepth 20000

theorem r_ref_joined (nl : Bool) (e : List (Int × Int)) (tl : Tail) (a b : Int) (h : AH) : RCall Try.prog n_ref_joined [.sl nl e.length (prs e) tl, I a, I b] h (.bool (decide ((min a b, max a b) ∈ e))) := by
  refine RCall.of hm cF_ref_joined (by simp [g_ref_joined]) fun hw h' hl => ?_
  have hx := wf_len (hw _ (.head _))
  simp only [F_ref_joined, g_ref_joined, go_sem, reduceIte, Nat.reduceEqDiff, Nat.reduceAdd, Nat.reduceMul, Nat.reduceSub, reduceCtorEq, Nat.reduceLeDiff, Nat.reduceLT, Int.reduceLT, Int.reduceLE, Int.reduceToNat, Int.reduceAdd, Int.reduceSub, Int.reduceNeg, Int.reduceMul, Int.reduceEq, ← Bool.decide_and, ← Bool.decide_or, ↓tq_n, ↓tq_e, ↓tq_r, ↓bq_n, ↓bq_e, ↓bq_r, ↓rq_n, ↓rq_r, ↓rq_e]
  refine awp_loop (fun i : Nat => [(0, .sl nl e.length (prs e) tl), (1, I a), (2, I b), (7, I i)]) (fun _ => h') (fun i => i ≤ e.length ∧ ∀ j, j < i → e.getD j (0, 0) ≠ (min a b, max a b)) (fun i => e.length - i) 0 ⟨by omega, by omega⟩ (GStep.forget (by repeat' first | exact EnvLe.nil _ | refine EnvLe.cons (AV.le.of_eq rfl) ?_ | refine EnvLe.cons (AV.le.undef _) ?_ | refine EnvLe.cons AV.le.unk ?_) (by repeat' first | exact AH.le.refl _ | assumption | (refine AH.le_put ?_ (by first | assumption | exact (AH.blk_put_ne _ _ (by assumption)).trans (by assumption) | exact AH.none_put (by assumption) | exact AH.none_put (AH.none_put (by assumption)) | (simp only [AH.blk_setTok, AH.tok_put] at *; first | assumption | exact AH.none_put (by assumption)))) | (refine AH.le_setTok ?_ (by first | assumption | exact (AH.blk_put_ne _ _ (by assumption)).trans (by assumption) | exact AH.none_put (by assumption) | exact AH.none_put (AH.none_put (by assumption)) | (simp only [AH.blk_setTok, AH.tok_put] at *; first | assumption | exact AH.none_put (by assumption)))) | (refine AH.le_putM ?_ (by first | assumption | exact (AH.mp_putM_ne _ _ (by assumption)).trans (by assumption) | (simp only [AH.mp_put, AH.mp_setTok] at *; assumption))))) fun i hi => .of_vg hm ?_
  obtain ⟨h3, h4⟩ := hi
  by_cases h5 : i < e.length
  · have hc5 : (i : Int) < (e.length : Int) := by omega
    have hstep : e.getD i (0, 0) ≠ (min a b, max a b) → ∀ j, j < i + 1 → e.getD j (0, 0) ≠ (min a b, max a b) := fun hp j hj => by
      rcases Nat.lt_succ_iff_lt_or_eq.1 hj with h | rfl
      · exact h4 j h
      · exact hp
    simp only [hc5, prs_drop h5, F_ref_joined, g_ref_joined, go_sem, reduceIte, Nat.reduceEqDiff, Nat.reduceAdd, Nat.reduceMul, Nat.reduceSub, reduceCtorEq, Nat.reduceLeDiff, Nat.reduceLT, Int.reduceLT, Int.reduceLE, Int.reduceToNat, Int.reduceAdd, Int.reduceSub, Int.reduceNeg, Int.reduceMul, Int.reduceEq, ← Bool.decide_and, ← Bool.decide_or, ↓tq_n, ↓tq_e, ↓tq_r, ↓bq_n, ↓bq_e, ↓bq_r, ↓rq_n, ↓rq_r, ↓rq_e]
    refine ⟨fun h6 => ⟨fun h7 => ?_, fun h7 => ?_⟩, fun h6 => ?_⟩
    · refine ret_hb (by repeat' first | exact AH.le.refl _ | assumption | (refine AH.le_put ?_ (by first | assumption | exact (AH.blk_put_ne _ _ (by assumption)).trans (by assumption) | exact AH.none_put (by assumption) | exact AH.none_put (AH.none_put (by assumption)) | (simp only [AH.blk_setTok, AH.tok_put] at *; first | assumption | exact AH.none_put (by assumption)))) | (refine AH.le_setTok ?_ (by first | assumption | exact (AH.blk_put_ne _ _ (by assumption)).trans (by assumption) | exact AH.none_put (by assumption) | exact AH.none_put (AH.none_put (by assumption)) | (simp only [AH.blk_setTok, AH.tok_put] at *; first | assumption | exact AH.none_put (by assumption)))) | (refine AH.le_putM ?_ (by first | assumption | exact (AH.mp_putM_ne _ _ (by assumption)).trans (by assumption) | (simp only [AH.mp_put, AH.mp_setTok] at *; assumption)))) ?_
      have : (min a b, max a b) ∈ e := by
        have := mem_getD (d := ((0 : Int), (0 : Int))) h5
        rwa [show e.getD i (0, 0) = (min a b, max a b) from Prod.ext h6 h7] at this
      simp [this]
    · exact ⟨by rw [inR64]; omega, i + 1, ⟨by omega, hstep (fun hh => h7 (by rw [hh]))⟩, by omega, (GStep.forget (by repeat' first | exact EnvLe.nil _ | refine EnvLe.cons (AV.le.of_eq rfl) ?_ | refine EnvLe.cons (AV.le.undef _) ?_ | refine EnvLe.cons AV.le.unk ?_) (by repeat' first | exact AH.le.refl _ | assumption | (refine AH.le_put ?_ (by first | assumption | exact (AH.blk_put_ne _ _ (by assumption)).trans (by assumption) | exact AH.none_put (by assumption) | exact AH.none_put (AH.none_put (by assumption)) | (simp only [AH.blk_setTok, AH.tok_put] at *; first | assumption | exact AH.none_put (by assumption)))) | (refine AH.le_setTok ?_ (by first | assumption | exact (AH.blk_put_ne _ _ (by assumption)).trans (by assumption) | exact AH.none_put (by assumption) | exact AH.none_put (AH.none_put (by assumption)) | (simp only [AH.blk_setTok, AH.tok_put] at *; first | assumption | exact AH.none_put (by assumption)))) | (refine AH.le_putM ?_ (by first | assumption | exact (AH.mp_putM_ne _ _ (by assumption)).trans (by assumption) | (simp only [AH.mp_put, AH.mp_setTok] at *; assumption)))))⟩
    · exact ⟨by rw [inR64]; omega, i + 1, ⟨by omega, hstep (fun hh => h6 (by rw [hh]))⟩, by omega, (GStep.forget (by repeat' first | exact EnvLe.nil _ | refine EnvLe.cons (AV.le.of_eq rfl) ?_ | refine EnvLe.cons (AV.le.undef _) ?_ | refine EnvLe.cons AV.le.unk ?_) (by repeat' first | exact AH.le.refl _ | assumption | (refine AH.le_put ?_ (by first | assumption | exact (AH.blk_put_ne _ _ (by assumption)).trans (by assumption) | exact AH.none_put (by assumption) | exact AH.none_put (AH.none_put (by assumption)) | (simp only [AH.blk_setTok, AH.tok_put] at *; first | assumption | exact AH.none_put (by assumption)))) | (refine AH.le_setTok ?_ (by first | assumption | exact (AH.blk_put_ne _ _ (by assumption)).trans (by assumption) | exact AH.none_put (by assumption) | exact AH.none_put (AH.none_put (by assumption)) | (simp only [AH.blk_setTok, AH.tok_put] at *; first | assumption | exact AH.none_put (by assumption)))) | (refine AH.le_putM ?_ (by first | assumption | exact (AH.mp_putM_ne _ _ (by assumption)).trans (by assumption) | (simp only [AH.mp_put, AH.mp_setTok] at *; assumption)))))⟩
  · have h5 : i = e.length := by omega
    subst h5
    simp only [F_ref_joined, g_ref_joined, go_sem, reduceIte, Nat.reduceEqDiff, Nat.reduceAdd, Nat.reduceMul, Nat.reduceSub, reduceCtorEq, Nat.reduceLeDiff, Nat.reduceLT, Int.reduceLT, Int.reduceLE, Int.reduceToNat, Int.reduceAdd, Int.reduceSub, Int.reduceNeg, Int.reduceMul, Int.reduceEq, ← Bool.decide_and, ← Bool.decide_or, ↓tq_n, ↓tq_e, ↓tq_r, ↓bq_n, ↓bq_e, ↓bq_r, ↓rq_n, ↓rq_r, ↓rq_e]
    refine ret_hb (by repeat' first | exact AH.le.refl _ | assumption | (refine AH.le_put ?_ (by first | assumption | exact (AH.blk_put_ne _ _ (by assumption)).trans (by assumption) | exact AH.none_put (by assumption) | exact AH.none_put (AH.none_put (by assumption)) | (simp only [AH.blk_setTok, AH.tok_put] at *; first | assumption | exact AH.none_put (by assumption)))) | (refine AH.le_setTok ?_ (by first | assumption | exact (AH.blk_put_ne _ _ (by assumption)).trans (by assumption) | exact AH.none_put (by assumption) | exact AH.none_put (AH.none_put (by assumption)) | (simp only [AH.blk_setTok, AH.tok_put] at *; first | assumption | exact AH.none_put (by assumption)))) | (refine AH.le_putM ?_ (by first | assumption | exact (AH.mp_putM_ne _ _ (by assumption)).trans (by assumption) | (simp only [AH.mp_put, AH.mp_setTok] at *; assumption)))) ?_
    have : (min a b, max a b) ∉ e := fun hm' => by
      obtain ⟨j, hj, hje⟩ := List.getElem_of_mem hm'
      exact h4 j hj (by simp [List.getD, hj, hje])
    simp [this]

/-! ### The coloring that is found -/
/-- One more than the greatest of the first k colors. -/
def usedTo (c : List Int) : Nat → Int
  | 0 => 0
  | k + 1 => max (usedTo c k) (c.getD k 0 + 1)
/-- Color x is that of a neighbour of the next vertex. -/
def blkd (e : List (Int × Int)) (c : List Int) (x : Int) : Bool := (List.range c.length).any fun i => decide (c.getD i 0 = x ∧ ((i : Int), (c.length : Int)) ∈ e)
/-- The first of the answers from color x on. -/
def tryC (f : Int → Option (List Int)) : Nat → Int → Option (List Int)
  | 0, _ => none
  | m + 1, x => match f x with
    | some r => some r
    | none => tryC f m (x + 1)
/-- The first coloring of the next vertices with k colors. -/
def ext (e : List (Int × Int)) (k : Int) : Nat → List Int → Option (List Int)
  | 0, c => some c
  | f + 1, c => tryC (fun x => if blkd e c x then none else ext e k f (c ++ [x])) (min k (usedTo c c.length + 1)).toNat 0
/-- Colors that the search may have given. -/
def Cs (c : List Int) : Prop := ∀ i, i < c.length → 0 ≤ c.getD i 0 ∧ c.getD i 0 ≤ i

theorem usedTo_le {c : List Int} (hc : Cs c) : ∀ k, k ≤ c.length → 0 ≤ usedTo c k ∧ usedTo c k ≤ k := by
  intro k
  induction k with
  | zero => intro _; simp [usedTo]
  | succ k ih => intro hk; have := ih (by omega); have := hc k (by omega); simp only [usedTo]; omega
theorem usedTo_gt {c : List Int} : ∀ k i, i < k → c.getD i 0 < usedTo c k := by
  intro k
  induction k with
  | zero => intro i hi; omega
  | succ k ih =>
    intro i hi
    simp only [usedTo]
    rcases Nat.lt_succ_iff_lt_or_eq.1 hi with h | rfl
    · have := ih i h; omega
    · omega
theorem getD_snoc (c : List Int) (x : Int) (i : Nat) : (c ++ [x]).getD i 0 = if i < c.length then c.getD i 0 else if i = c.length then x else 0 := by
  simp only [List.getD, List.getElem?_append]
  split
  · rfl
  · split
    · rename_i h; subst h; simp
    · rename_i h1 h2
      rw [List.getElem?_eq_none (by simp; omega)]; rfl
theorem Cs.snoc {c : List Int} (hc : Cs c) {x : Int} (h0 : 0 ≤ x) (hx : x ≤ c.length) : Cs (c ++ [x]) := by
  intro i hi
  rw [getD_snoc]
  simp only [List.length_append, List.length_cons, List.length_nil] at hi
  split
  · exact hc i (by assumption)
  · rw [if_pos (by omega)]; omega
theorem Cs.nil : Cs [] := fun i hi => by simp at hi
theorem blkd_used (e : List (Int × Int)) (c : List Int) : blkd e c (usedTo c c.length) = false := by
  unfold blkd
  simp only [List.any_eq_false, List.mem_range, decide_eq_true_eq]
  intro i hi ⟨h1, _⟩
  have := usedTo_gt (c := c) c.length i hi
  omega
theorem tryC_some {f : Int → Option (List Int)} : ∀ (m : Nat) (x y : Int), x ≤ y → y < x + m → (f y).isSome = true → (tryC f m x).isSome = true := by
  intro m
  induction m with
  | zero => intro x y h1 h2; omega
  | succ m ih =>
    intro x y h1 h2 hy
    simp only [tryC]
    split
    · rfl
    · rename_i hn
      by_cases hxy : x = y
      · subst hxy; rw [hn] at hy; cases hy
      · exact ih (x + 1) y (by omega) (by omega) hy
theorem ext_some (e : List (Int × Int)) (k : Int) : ∀ (f : Nat) (c : List Int), Cs c → (c.length : Int) + f ≤ k → (ext e k f c).isSome = true := by
  intro f
  induction f with
  | zero => intro c _ _; rfl
  | succ f ih =>
    intro c hc hk
    have hu := usedTo_le hc c.length (Nat.le_refl _)
    simp only [ext]
    refine tryC_some _ 0 (usedTo c c.length) hu.1 (by omega) ?_
    rw [blkd_used, if_neg (by simp)]
    exact ih _ (hc.snoc hu.1 hu.2) (by simp; omega)

/-- The least number of colors. -/
def chi (n : Int) (e : List (Int × Int)) : Int := findI (fun k => (ext e k n.toNat []).isSome) 13
end Go.Proofs.Yticiimmfjdkimaa
