/- The law PlateFits. No condition. -/
import Derived.Test.YtkoecjhjdckgeaaD10
namespace Go.Proofs.Ytkoecjhjdckgeaa
open Go Go.Abs
set_option linter.unusedSimpArgs false
set_option linter.unusedVariables false
set_option maxRecDepth 20000

/-- How an earlier item of a layout lies to a later one. -/
def behind (l : List It) (p : It) (k i : Nat) : Prop :=
  (laS l p k).1.2.1 ≤ (laS l p i).1.2.1 ∧ ((laS l p k).1.2.1 = (laS l p i).1.2.1 → (laS l p k).1.2.2.2 + (l.getD k dI).2.2 ≤ (laS l p i).2 ∧
    (((laS l p k).1.2.2.2 = (laS l p i).1.2.2.2 ∧ (laS l p k).1.2.2.1 + (l.getD k dI).2.1 ≤ (laS l p i).1.2.2.1 + (l.getD i dI).2.1) ∨ (laS l p k).1.2.2.2 + (l.getD k dI).2.2 + p.2.2 ≤ (laS l p i).1.2.2.2))
theorem behind_all {l : List It} {p : It} (hp : pgOK p) (hi : ∀ i, i < l.length → iOK l i) (hb : ∀ i, i < l.length → ¬ big p (l.getD i dI)) : ∀ i, i < l.length → ∀ k, k ≤ i → behind l p k i := by
  intro i
  induction i with
  | zero =>
    intro h k hk
    have : k = 0 := by omega
    subst this
    obtain ⟨b1, b2, b3, b4⟩ := laS_ok hp hi hb 0 h
    exact ⟨Int.le_refl _, fun _ => ⟨b4.1, .inl ⟨rfl, Int.le_refl _⟩⟩⟩
  | succ i ih =>
    intro h k hk
    obtain ⟨c1, c2, c3, c4⟩ := laS_ok hp hi hb (i + 1) h
    rcases Nat.eq_or_lt_of_le hk with rfl | hk'
    · exact ⟨Int.le_refl _, fun _ => ⟨c4.1, .inl ⟨rfl, Int.le_refl _⟩⟩⟩
    obtain ⟨d1, d2⟩ := ih (by omega) k (by omega)
    obtain ⟨b1, b2, b3, b4⟩ := laS_ok hp hi hb i (by omega)
    have h1 := hi (i + 1) h
    have h3 := hi i (by omega)
    obtain ⟨p1, p2, p3⟩ := hp
    unfold iOK at h1 h3
    unfold behind
    rw [laS_succ]
    generalize laS l p k = K at *
    generalize laS l p i = A at *
    obtain ⟨a, low⟩ := A
    simp only at b1 b2 b3 b4 d1 d2 ⊢
    unfold nxS
    simp only
    split
    · dsimp only
      refine ⟨d1, fun e => ?_⟩
      obtain ⟨d3, d4⟩ := d2 e
      refine ⟨by omega, ?_⟩
      rcases d4 with d4 | d4
      · left; omega
      · right; omega
    · split
      · dsimp only
        refine ⟨d1, fun e => ?_⟩
        obtain ⟨d3, d4⟩ := d2 e
        exact ⟨by omega, .inr (by omega)⟩
      · dsimp only
        refine ⟨by omega, fun e => by omega⟩
/-- Two items of a layout are not near each other. -/
theorem lay_free {l : List It} {p : It} (hp : pgOK p) (hi : ∀ i, i < l.length → iOK l i) (hb : ∀ i, i < l.length → ¬ big p (l.getD i dI)) {i k : Nat} (h : i < l.length) (hk : k < i) :
    ¬ ((laS l p i).1.2.1 = (laS l p k).1.2.1 ∧ nr (laS l p i).1.2.2.1 (l.getD i dI).2.1 (laS l p k).1.2.2.1 (l.getD k dI).2.1 p.2.2 ∧ nr (laS l p i).1.2.2.2 (l.getD i dI).2.2 (laS l p k).1.2.2.2 (l.getD k dI).2.2 p.2.2) := by
  cases i with
  | zero => omega
  | succ i =>
    obtain ⟨d1, d2⟩ := behind_all hp hi hb i (by omega) k (by omega)
    rw [laS_succ]
    generalize laS l p k = K at *
    generalize laS l p i = A at *
    obtain ⟨a, low⟩ := A
    simp only at d1 d2 ⊢
    unfold nxS nr
    simp only
    split
    · dsimp only
      rintro ⟨e, ⟨n1, n2⟩, n3, n4⟩
      obtain ⟨d3, d4⟩ := d2 e.symm
      rcases d4 with d4 | d4 <;> omega
    · split
      · dsimp only
        rintro ⟨e, ⟨n1, n2⟩, n3, n4⟩
        obtain ⟨d3, d4⟩ := d2 e.symm
        omega
      · dsimp only
        rintro ⟨e, _⟩
        omega
theorem lay_check {l : List It} {p : It} (h : lgQ l p = 0) : ckQ l p (lay l p l.length) = 0 := by
  obtain ⟨c1, c2⟩ := lgQ_ok h
  obtain ⟨c3, gp⟩ := gvQ_ok c1
  obtain ⟨c4, c5⟩ := itQ_ok c3
  have hg : ∀ i, i < l.length → (lay l p l.length).getD i dS = (laS l p i).1 := fun i hi => lay_get hi
  have hid : ∀ i, i < l.length → (laS l p i).1.1 = (l.getD i dI).1 := fun i hi => (laS_ok gp c5 c2 i hi).1
  have hfn : ∀ i, i < l.length → fnd l (laS l p i).1.1 = l.getD i dI := fun i hi => by
    rw [hid i hi]
    exact fnd_at hi rfl fun k hk => (c5 i hi).2.2.2 k hk
  refine ckQ_0 c1 (lay_len _ _ _) (fun i hi => ?_) (fun i hi => ?_) (fun i hi k hk => ?_)
  · rw [lay_len] at hi
    refine ⟨⟨i, hi, by rw [hg i hi, hid i hi]⟩, fun k hk => ?_⟩
    rw [hg i hi, hg k (by omega), hid i hi, hid k (by omega)]
    exact (c5 i hi).2.2.2 k hk
  · rw [lay_len] at hi
    obtain ⟨_, b2, b3, _⟩ := laS_ok gp c5 c2 i hi
    rw [hg i hi]
    rintro (hh | hh)
    · omega
    · exact hh (by rw [hfn i hi]; exact b3)
  · rw [lay_len] at hi
    rw [hg i hi, hg k (by omega)]
    unfold cfS
    rw [hfn i hi, hfn k (by omega)]
    exact lay_free gp c5 c2 hi hk

/-- The areas so far fit into the plates so far. -/
theorem area_le {l : List It} {p : It} (hp : pgOK p) (hi : ∀ i, i < l.length → iOK l i) (hb : ∀ i, i < l.length → ¬ big p (l.getD i dI)) : ∀ i, i < l.length →
    arS l (i + 1) ≤ (laS l p i).1.2.1 * arP p + (p.1 - 2 * p.2.2) * ((laS l p i).1.2.2.2 - p.2.2) + ((laS l p i).1.2.2.1 + (l.getD i dI).2.1 - p.2.2) * ((laS l p i).2 - (laS l p i).1.2.2.2) := by
  intro i
  induction i with
  | zero =>
    intro h
    have h1 := hi 0 h
    unfold iOK at h1
    obtain ⟨p1, p2, p3⟩ := hp
    have e1 : arS l (0 + 1) = (l.getD 0 dI).2.1 * (l.getD 0 dI).2.2 := by simp [arS]
    have e2 : (laS l p 0).1.2.1 = 0 := rfl
    have e3 : (laS l p 0).1.2.2.2 = p.2.2 := rfl
    have e4 : (laS l p 0).1.2.2.1 = p.2.2 := rfl
    have e5 : (laS l p 0).2 = p.2.2 + (l.getD 0 dI).2.2 := by
      show max p.2.2 (p.2.2 + (l.getD 0 dI).2.2) = _
      omega
    rw [e1, e2, e3, e4, e5]
    have e6 : p.2.2 + (l.getD 0 dI).2.1 - p.2.2 = (l.getD 0 dI).2.1 := by omega
    have e7 : p.2.2 + (l.getD 0 dI).2.2 - p.2.2 = (l.getD 0 dI).2.2 := by omega
    rw [e6, e7, Int.sub_self, Int.mul_zero, Int.zero_mul]
    omega
  | succ i ih =>
    intro h
    have h0 := ih (by omega)
    obtain ⟨b1, b2, b3, b4⟩ := laS_ok hp hi hb i (by omega)
    have h1 := hi (i + 1) h
    have h2 := hb (i + 1) h
    have h3 := hi i (by omega)
    obtain ⟨p1, p2, p3⟩ := hp
    unfold iOK at h1 h3
    unfold big at h2
    unfold inn at b3
    have e1 : arS l (i + 1 + 1) = arS l (i + 1) + (l.getD (i + 1) dI).2.1 * (l.getD (i + 1) dI).2.2 := rfl
    rw [e1, laS_succ]
    generalize laS l p i = A at *
    obtain ⟨a, low⟩ := A
    simp only at b1 b2 b3 b4 h0 ⊢
    generalize arS l (i + 1) = S at *
    obtain ⟨w1, hw1⟩ : ∃ w, w = (l.getD i dI).2.1 := ⟨_, rfl⟩
    obtain ⟨w2, hw2⟩ : ∃ w, w = (l.getD (i + 1) dI).2.1 := ⟨_, rfl⟩
    obtain ⟨t2, ht2⟩ : ∃ w, w = (l.getD (i + 1) dI).2.2 := ⟨_, rfl⟩
    obtain ⟨m, hm0⟩ : ∃ m, m = p.2.2 := ⟨_, rfl⟩
    obtain ⟨W, hW⟩ : ∃ W, W = p.1 - 2 * p.2.2 := ⟨_, rfl⟩
    obtain ⟨X, hX⟩ : ∃ X, X = a.2.2.1 := ⟨_, rfl⟩
    obtain ⟨Y, hY⟩ : ∃ Y, Y = a.2.2.2 := ⟨_, rfl⟩
    have q1 : X + w1 - m ≤ W := by omega
    have q2 : 0 ≤ low - Y := by omega
    have q3 : W * (Y - m) + W * (low - Y) = W * (low - m) := by rw [← Int.mul_add]; congr 1; omega
    have q4 := Int.mul_le_mul_of_nonneg_right q1 q2
    have q0 : S ≤ a.2.1 * arP p + W * (Y - m) + (X + w1 - m) * (low - Y) := by rw [hW, hY, hX, hw1, hm0]; exact h0
    have hWn : 0 ≤ W := by omega
    -- the whole of the plate so far
    have q5 : S ≤ a.2.1 * arP p + W * (low - m) := by omega
    rw [← hW, ← hw2, ← ht2, ← hm0]
    unfold nxS
    rw [← hw1, ← hm0, ← hX, ← hY]
    simp only
    split
    · show S + w2 * t2 ≤ a.2.1 * arP p + W * (Y - m) + (X + w1 + m + w2 - m) * (max low (Y + t2) - Y)
      have r1 : low - Y ≤ max low (Y + t2) - Y := by omega
      have r2 : t2 ≤ max low (Y + t2) - Y := by omega
      have r0 : 0 ≤ max low (Y + t2) - Y := by omega
      generalize max low (Y + t2) - Y = Z at *
      have r3 := Int.mul_le_mul_of_nonneg_left r1 (show 0 ≤ X + w1 - m by omega)
      have r4 := Int.mul_le_mul_of_nonneg_left r2 (show 0 ≤ w2 by omega)
      have r5 : (X + w1 + m + w2 - m) * Z = (X + w1 - m) * Z + w2 * Z + m * Z := by rw [← Int.add_mul, ← Int.add_mul]; congr 1; omega
      have r6 := Int.mul_nonneg (show 0 ≤ m by omega) r0
      omega
    · split
      · show S + w2 * t2 ≤ a.2.1 * arP p + W * (low + m - m) + (m + w2 - m) * (max (low + m) (low + m + t2) - (low + m))
        have r1 : max (low + m) (low + m + t2) - (low + m) = t2 := by omega
        have r2 : m + w2 - m = w2 := by omega
        rw [r1, r2]
        have r3 := Int.mul_le_mul_of_nonneg_left (show low - m ≤ low + m - m by omega) hWn
        omega
      · show S + w2 * t2 ≤ (a.2.1 + 1) * arP p + W * (m - m) + (m + w2 - m) * (max m (m + t2) - m)
        have r1 : max m (m + t2) - m = t2 := by omega
        have r2 : m + w2 - m = w2 := by omega
        rw [r1, r2, Int.sub_self, Int.mul_zero, Int.add_mul, Int.one_mul]
        have r3 := Int.mul_le_mul_of_nonneg_left (show low - m ≤ p.2.1 - 2 * p.2.2 by omega) hWn
        have r4 : W * (p.2.1 - 2 * p.2.2) = arP p := by rw [hW]; rfl
        omega
theorem area_end {l : List It} {p : It} (h : lgQ l p = 0) : arS l l.length ≤ plN (lay l p l.length) l.length * arP p := by
  obtain ⟨c1, c2⟩ := lgQ_ok h
  obtain ⟨c3, gp⟩ := gvQ_ok c1
  obtain ⟨c4, c5⟩ := itQ_ok c3
  rcases Nat.eq_zero_or_pos l.length with e | hpos
  · rw [e]; simp [arS, plN]
  · obtain ⟨n, hn⟩ : ∃ n, l.length = n + 1 := ⟨l.length - 1, by omega⟩
    obtain ⟨a1, a2, a3, a4⟩ := arP_b h hpos
    have h1 := area_le gp c5 c2 n (by omega)
    obtain ⟨b1, b2, b3, b4⟩ := laS_ok gp c5 c2 n (by omega)
    have g1 : ((lay l p l.length).getD n dS) = (laS l p n).1 := lay_get (by omega)
    have h2 : (laS l p n).1.2.1 + 1 ≤ plN (lay l p l.length) l.length := by
      rw [hn]
      unfold plN
      rw [← hn, g1]
      omega
    have h3 := Int.mul_le_mul_of_nonneg_right h2 (show 0 ≤ arP p by omega)
    rw [Int.add_mul, Int.one_mul] at h3
    rw [← hn] at h1
    unfold inn at b3
    generalize laS l p n = A at *
    obtain ⟨a, low⟩ := A
    simp only at b1 b2 b3 b4 h1 h2 h3
    obtain ⟨p1, p2, p3⟩ := gp
    have q1 : a.2.2.1 + (l.getD n dI).2.1 - p.2.2 ≤ p.1 - 2 * p.2.2 := by omega
    have h5 := c5 n (by omega)
    unfold iOK at h5
    have q4 := Int.mul_le_mul_of_nonneg_right q1 (show 0 ≤ low - a.2.2.2 by omega)
    have q3 : (p.1 - 2 * p.2.2) * (a.2.2.2 - p.2.2) + (p.1 - 2 * p.2.2) * (low - a.2.2.2) = (p.1 - 2 * p.2.2) * (low - p.2.2) := by rw [← Int.mul_add]; congr 1; omega
    have q5 := Int.mul_le_mul_of_nonneg_left (show low - p.2.2 ≤ p.2.1 - 2 * p.2.2 by omega) (show 0 ≤ p.1 - 2 * p.2.2 by omega)
    have r4 : (p.1 - 2 * p.2.2) * (p.2.1 - 2 * p.2.2) = arP p := rfl
    omega
theorem lay_pl {l : List It} {p : It} (h : lgQ l p = 0) : plOK (lay l p l.length) := by
  obtain ⟨c1, c2⟩ := lgQ_ok h
  obtain ⟨c3, gp⟩ := gvQ_ok c1
  obtain ⟨c4, c5⟩ := itQ_ok c3
  intro i hi
  rw [lay_len] at hi
  obtain ⟨_, b2, _, _⟩ := laS_ok gp c5 c2 i hi
  rw [lay_get hi]
  omega
theorem plates_ge {l : List It} {p : It} (h : lgQ l p = 0) : lwV l p ≤ plN (lay l p l.length) l.length := by
  obtain ⟨w1, w2, w3⟩ := lwV_b h
  have hb := plN_b (lay_pl h) l.length (by rw [lay_len]; exact Nat.le_refl _)
  have ha := area_end h
  rcases Int.lt_or_le (plN (lay l p l.length) l.length) (lwV l p) with hh | hh
  · have := (w3 _ hb.1 (by omega)).2 hh
    omega
  · exact hh

theorem r_law_PlateFits (nl : Bool) (l : List It) (tl : Tail) (p : It) (h : AH) : RCall Try.prog n_law_PlateFits [.sl nl l.length (trs l) tl, i3 p] h (.bool true) := by
  refine RCall.of hm cF_law_PlateFits (by simp [g_law_PlateFits]) fun hw h' hl => ?_
  simp only [F_law_PlateFits, g_law_PlateFits, go_sem, reduceIte, Nat.reduceEqDiff, Nat.reduceAdd, Nat.reduceMul, Nat.reduceSub, reduceCtorEq, Nat.reduceLeDiff, Nat.reduceLT, Int.reduceLT, Int.reduceLE, Int.reduceToNat, Int.reduceAdd, Int.reduceSub, Int.reduceNeg, Int.reduceMul, Int.reduceEq, ← Bool.decide_and, ← Bool.decide_or, ↓tq_n, ↓tq_e, ↓tq_r, ↓bq_n, ↓bq_e, ↓bq_r, ↓rq_n, ↓rq_r, ↓rq_e]
  refine CallG.mk (r_law_awake _) ?_
  by_cases k1 : (40 : Int) < (l.length : Int)
  · simp only [k1, F_law_PlateFits, g_law_PlateFits, go_sem, reduceIte, Nat.reduceEqDiff, Nat.reduceAdd, Nat.reduceMul, Nat.reduceSub, reduceCtorEq, Nat.reduceLeDiff, Nat.reduceLT, Int.reduceLT, Int.reduceLE, Int.reduceToNat, Int.reduceAdd, Int.reduceSub, Int.reduceNeg, Int.reduceMul, Int.reduceEq, ← Bool.decide_and, ← Bool.decide_or, ↓tq_n, ↓tq_e, ↓tq_r, ↓bq_n, ↓bq_e, ↓bq_r, ↓rq_n, ↓rq_r, ↓rq_e]
    refine CallG.mk (r_law_awake _) ?_
    simp only [F_law_PlateFits, g_law_PlateFits, go_sem, reduceIte, Nat.reduceEqDiff, Nat.reduceAdd, Nat.reduceMul, Nat.reduceSub, reduceCtorEq, Nat.reduceLeDiff, Nat.reduceLT, Int.reduceLT, Int.reduceLE, Int.reduceToNat, Int.reduceAdd, Int.reduceSub, Int.reduceNeg, Int.reduceMul, Int.reduceEq, ← Bool.decide_and, ← Bool.decide_or, ↓tq_n, ↓tq_e, ↓tq_r, ↓bq_n, ↓bq_e, ↓bq_r, ↓rq_n, ↓rq_r, ↓rq_e]
    exact ret_ok rfl
  simp only [k1, F_law_PlateFits, g_law_PlateFits, go_sem, reduceIte, Nat.reduceEqDiff, Nat.reduceAdd, Nat.reduceMul, Nat.reduceSub, reduceCtorEq, Nat.reduceLeDiff, Nat.reduceLT, Int.reduceLT, Int.reduceLE, Int.reduceToNat, Int.reduceAdd, Int.reduceSub, Int.reduceNeg, Int.reduceMul, Int.reduceEq, ← Bool.decide_and, ← Bool.decide_or, ↓tq_n, ↓tq_e, ↓tq_r, ↓bq_n, ↓bq_e, ↓bq_r, ↓rq_n, ↓rq_r, ↓rq_e]
  refine CallG.mk (r_plate_Layout nl l tl p _) ?_
  by_cases h0 : lgQ l p = 0
  case neg =>
    rw [show layV l p = .tup [.sl true 0 [] .full, I (lgQ l p)] by rw [layV, if_neg h0]]
    simp only [F_law_PlateFits, g_law_PlateFits, go_sem, reduceIte, Nat.reduceEqDiff, Nat.reduceAdd, Nat.reduceMul, Nat.reduceSub, reduceCtorEq, Nat.reduceLeDiff, Nat.reduceLT, Int.reduceLT, Int.reduceLE, Int.reduceToNat, Int.reduceAdd, Int.reduceSub, Int.reduceNeg, Int.reduceMul, Int.reduceEq, ← Bool.decide_and, ← Bool.decide_or, ↓tq_n, ↓tq_e, ↓tq_r, ↓bq_n, ↓bq_e, ↓bq_r, ↓rq_n, ↓rq_r, ↓rq_e]
    refine CallG.mk (r_plate_Lower nl l tl p _) ?_
    rw [show lowV l p = .tup [I 0, I (lgQ l p)] by rw [lowV, if_neg h0]]
    simp only [h0, F_law_PlateFits, g_law_PlateFits, go_sem, reduceIte, Nat.reduceEqDiff, Nat.reduceAdd, Nat.reduceMul, Nat.reduceSub, reduceCtorEq, Nat.reduceLeDiff, Nat.reduceLT, Int.reduceLT, Int.reduceLE, Int.reduceToNat, Int.reduceAdd, Int.reduceSub, Int.reduceNeg, Int.reduceMul, Int.reduceEq, ← Bool.decide_and, ← Bool.decide_or, ↓tq_n, ↓tq_e, ↓tq_r, ↓bq_n, ↓bq_e, ↓bq_r, ↓rq_n, ↓rq_r, ↓rq_e]
    exact ret_ok rfl
  rw [show layV l p = .tup [.sl (decide (l.length = 0)) l.length (sps (lay l p l.length)) .unk, I 0] by rw [layV, if_pos h0]; simp only [gl, Bool.and_true]]
  simp only [F_law_PlateFits, g_law_PlateFits, go_sem, reduceIte, Nat.reduceEqDiff, Nat.reduceAdd, Nat.reduceMul, Nat.reduceSub, reduceCtorEq, Nat.reduceLeDiff, Nat.reduceLT, Int.reduceLT, Int.reduceLE, Int.reduceToNat, Int.reduceAdd, Int.reduceSub, Int.reduceNeg, Int.reduceMul, Int.reduceEq, ← Bool.decide_and, ← Bool.decide_or, ↓tq_n, ↓tq_e, ↓tq_r, ↓bq_n, ↓bq_e, ↓bq_r, ↓rq_n, ↓rq_r, ↓rq_e]
  refine CallG.mk (r_plate_Lower nl l tl p _) ?_
  rw [show lowV l p = .tup [I (lwV l p), I 0] by rw [lowV, if_pos h0]]
  simp only [F_law_PlateFits, g_law_PlateFits, go_sem, reduceIte, Nat.reduceEqDiff, Nat.reduceAdd, Nat.reduceMul, Nat.reduceSub, reduceCtorEq, Nat.reduceLeDiff, Nat.reduceLT, Int.reduceLT, Int.reduceLE, Int.reduceToNat, Int.reduceAdd, Int.reduceSub, Int.reduceNeg, Int.reduceMul, Int.reduceEq, ← Bool.decide_and, ← Bool.decide_or, ↓tq_n, ↓tq_e, ↓tq_r, ↓bq_n, ↓bq_e, ↓bq_r, ↓rq_n, ↓rq_r, ↓rq_e]
  have hc1 := fun b => r_plate_Check nl l tl p b (lay l p l.length) .unk h'
  have hc2 := fun b => r_ref_Check nl l tl p b (lay l p l.length) .unk h'
  have hc3 := fun b => r_plate_Plates b (lay l p l.length) .unk h' (lay_pl h0)
  rw [lay_len] at hc1 hc2 hc3
  rw [lay_check h0] at hc1 hc2
  have hge := plates_ge h0
  refine CallG.mk (hc1 _) ?_
  simp only [F_law_PlateFits, g_law_PlateFits, go_sem, reduceIte, Nat.reduceEqDiff, Nat.reduceAdd, Nat.reduceMul, Nat.reduceSub, reduceCtorEq, Nat.reduceLeDiff, Nat.reduceLT, Int.reduceLT, Int.reduceLE, Int.reduceToNat, Int.reduceAdd, Int.reduceSub, Int.reduceNeg, Int.reduceMul, Int.reduceEq, ← Bool.decide_and, ← Bool.decide_or, ↓tq_n, ↓tq_e, ↓tq_r, ↓bq_n, ↓bq_e, ↓bq_r, ↓rq_n, ↓rq_r, ↓rq_e]
  refine CallG.mk (hc2 _) ?_
  simp only [F_law_PlateFits, g_law_PlateFits, go_sem, reduceIte, Nat.reduceEqDiff, Nat.reduceAdd, Nat.reduceMul, Nat.reduceSub, reduceCtorEq, Nat.reduceLeDiff, Nat.reduceLT, Int.reduceLT, Int.reduceLE, Int.reduceToNat, Int.reduceAdd, Int.reduceSub, Int.reduceNeg, Int.reduceMul, Int.reduceEq, ← Bool.decide_and, ← Bool.decide_or, ↓tq_n, ↓tq_e, ↓tq_r, ↓bq_n, ↓bq_e, ↓bq_r, ↓rq_n, ↓rq_r, ↓rq_e]
  refine CallG.mk (hc3 _) ?_
  simp only [F_law_PlateFits, g_law_PlateFits, go_sem, reduceIte, Nat.reduceEqDiff, Nat.reduceAdd, Nat.reduceMul, Nat.reduceSub, reduceCtorEq, Nat.reduceLeDiff, Nat.reduceLT, Int.reduceLT, Int.reduceLE, Int.reduceToNat, Int.reduceAdd, Int.reduceSub, Int.reduceNeg, Int.reduceMul, Int.reduceEq, ← Bool.decide_and, ← Bool.decide_or, ↓tq_n, ↓tq_e, ↓tq_r, ↓bq_n, ↓bq_e, ↓bq_r, ↓rq_n, ↓rq_r, ↓rq_e]
  exact ret_ok (by simp [hge])
end Go.Proofs.Ytkoecjhjdckgeaa
