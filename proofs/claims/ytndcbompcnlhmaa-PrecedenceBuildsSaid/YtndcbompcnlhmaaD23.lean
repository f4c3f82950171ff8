/- Calls of functions of this seat's program: classes of specimens that are alike; lists of specimens compared; the statement PrecedenceBuilds as a call. No condition. -/
import Derived.Test.YtndcbompcnlhmaaDR
import Derived.Test.YtndcbompcnlhmaaD12
import Derived.Test.YtndcbompcnlhmaaC8
namespace Go.Proofs.Ytndcbompcnlhmaa
open Go Go.Abs
set_option linter.unusedSimpArgs false
set_option linter.unusedVariables false
set_option maxRecDepth 20000

theorem Spm.ext' {x y : Spm} (h : x.id = y.id ∧ x.obv = y.obv ∧ x.rev = y.rev ∧ x.os = y.os ∧ x.rs = y.rs ∧ x.ax = y.ax ∧ x.wt = y.wt) : x = y := by
  obtain ⟨a1, a2, a3, a4, a5, a6, a7⟩ := h
  cases x; cases y; simp_all
instance : DecidableEq Spm := fun x y => decidable_of_iff (x.id = y.id ∧ x.obv = y.obv ∧ x.rev = y.rev ∧ x.os = y.os ∧ x.rs = y.rs ∧ x.ax = y.ax ∧ x.wt = y.wt) ⟨Spm.ext', fun h => by subst h; exact ⟨rfl, rfl, rfl, rfl, rfl, rfl, rfl⟩⟩
theorem i64s_snoc1 (xs : List Int) (v : Int) : i64s (xs ++ [v]) = i64s xs ++ [I v] := by simp [i64s]
/-- The first place that is like a place. -/
def fsA (q : Nat → Nat → Bool) (i : Nat) : Nat := (List.range (i + 1)).findIdx fun k => q k i
/-- How many places are like none before. -/
def ctA (q : Nat → Nat → Bool) : Nat → Nat
  | 0 => 0
  | i + 1 => if fsA q i = i then ctA q i + 1 else ctA q i
def clA (q : Nat → Nat → Bool) (i : Nat) : Int := (ctA q (fsA q i) : Int)
structure EqA (q : Nat → Nat → Bool) : Prop where
  refl : ∀ i, q i i = true
  symm : ∀ i j, q i j = true → q j i = true
  trans : ∀ i j k, q i j = true → q j k = true → q i k = true
section
variable {q : Nat → Nat → Bool} (hq : EqA q)
include hq
theorem fsA_lt (i : Nat) : fsA q i < (List.range (i + 1)).length := List.findIdx_lt_length_of_exists ⟨i, List.mem_range.2 (by omega), hq.refl i⟩
theorem fsA_le (i : Nat) : fsA q i ≤ i := by have := fsA_lt hq i; rw [List.length_range] at this; omega
theorem fsA_q (i : Nat) : q (fsA q i) i = true := by
  have h : q ((List.range (i + 1))[fsA q i]'(fsA_lt hq i)) i = true := List.findIdx_getElem (xs := List.range (i + 1)) (p := fun k => q k i) (w := fsA_lt hq i)
  rw [List.getElem_range] at h
  exact h
omit hq in
theorem fsA_min {i k : Nat} (h : q k i = true) : fsA q i ≤ k := by
  refine Nat.le_of_not_lt fun hh => ?_
  have h1 := List.not_of_lt_findIdx (p := fun k => q k i) (xs := List.range (i + 1)) (i := k) hh
  rw [List.getElem_range] at h1
  rw [h] at h1; cases h1
theorem fsA_eq {i j : Nat} (h : q i j = true) : fsA q i = fsA q j := by
  have h1 := fsA_min (hq.trans _ _ _ (fsA_q hq i) h)
  have h2 := fsA_min (hq.trans _ _ _ (fsA_q hq j) (hq.symm _ _ h))
  omega
theorem fsA_fs (i : Nat) : fsA q (fsA q i) = fsA q i := fsA_eq hq (fsA_q hq i)
theorem clA_eq {i j : Nat} (h : q i j = true) : clA q i = clA q j := by unfold clA; rw [fsA_eq hq h]
end
theorem clA_pos (q : Nat → Nat → Bool) (i : Nat) : 0 ≤ clA q i := by unfold clA; omega
theorem ctA_le (q : Nat → Nat → Bool) : ∀ i, ctA q i ≤ i
  | 0 => Nat.le_refl _
  | i + 1 => by have := ctA_le q i; simp only [ctA]; split <;> omega
def clsL (q : Nat → Nat → Bool) (n : Nat) : List Int := (List.range n).map fun j => clA q j
theorem clsL_len (q : Nat → Nat → Bool) (n : Nat) : (clsL q n).length = n := by simp [clsL]
theorem clsL_succ (q : Nat → Nat → Bool) (n : Nat) : clsL q (n + 1) = clsL q n ++ [clA q n] := by simp [clsL, List.range_succ]
theorem clsL_getD (q : Nat → Nat → Bool) {n j : Nat} (h : j < n) : (clsL q n).getD j 0 = clA q j := by
  unfold clsL
  simp [List.getD, h]
/-- A list in which some places have their class, the others -1. -/
def JfA (q : Nat → Nat → Bool) (n : Nat) (R : Nat → Prop) (f : List Int) : Prop := f.length = n ∧ ∀ j, j < n → (R j → f.getD j 0 = clA q j) ∧ (¬ R j → f.getD j 0 = -1)
theorem JfA.iff {q : Nat → Nat → Bool} {n : Nat} {R R' : Nat → Prop} {f : List Int} (h : JfA q n R f) (hr : ∀ j, j < n → (R' j ↔ R j)) : JfA q n R' f :=
  ⟨h.1, fun j hj => ⟨fun k => (h.2 j hj).1 ((hr j hj).1 k), fun k => (h.2 j hj).2 fun kk => k ((hr j hj).2 kk)⟩⟩
theorem JfA.set {q : Nat → Nat → Bool} {n : Nat} {R R' : Nat → Prop} {f : List Int} (h : JfA q n R f) {k : Nat} (hk : k < n) {v : Int} (hv : v = clA q k) (hr : ∀ j, j < n → (R' j ↔ R j ∨ j = k)) : JfA q n R' (f.set k v) := by
  refine ⟨by rw [List.length_set]; exact h.1, fun j hj => ?_⟩
  have hl := h.1
  by_cases e : j = k
  · subst e
    have e1 : (f.set j v).getD j 0 = v := by simp [List.getD, show j < f.length by omega]
    exact ⟨fun _ => by rw [e1, hv], fun hn => absurd ((hr j hj).2 (.inr rfl)) hn⟩
  · have e1 : (f.set k v).getD j 0 = f.getD j 0 := by simp [List.getD, List.getElem?_set, Ne.symm e]
    rw [e1]
    exact ⟨fun hh => (h.2 j hj).1 (((hr j hj).1 hh).resolve_right e), fun hn => (h.2 j hj).2 fun hh => hn ((hr j hj).2 (.inl hh))⟩
theorem JfA.all {q : Nat → Nat → Bool} {n : Nat} {R : Nat → Prop} {f : List Int} (h : JfA q n R f) (hr : ∀ j, j < n → R j) : f = clsL q n := by
  refine getD_gext 0 (by rw [clsL_len]; exact h.1) fun j hj => ?_
  rw [h.1] at hj
  rw [(h.2 j hj).1 (hr j hj), clsL_getD q hj]
theorem JfA.ini (q : Nat → Nat → Bool) (n : Nat) : JfA q n (fun j => fsA q j < 0) (List.replicate n (-1)) :=
  ⟨by simp, fun j hj => ⟨fun h => absurd h (Nat.not_lt_zero _), fun _ => by simp [List.getD, hj]⟩⟩

def alQ (l : List Spm) (i k : Nat) : Bool := alS (l.getD i dS) (l.getD k dS)
theorem alQ_eq (l : List Spm) : EqA (alQ l) := by
  constructor
  · intro i; unfold alQ alS; simp
  · intro i j h; unfold alQ alS at *; have := of_decide_eq_true h; exact decide_eq_true ⟨this.1.symm, this.2.1.symm, this.2.2.1.symm, this.2.2.2.symm⟩
  · intro i j k h1 h2; unfold alQ alS at *
    have a := of_decide_eq_true h1
    have b := of_decide_eq_true h2
    exact decide_eq_true ⟨a.1.trans b.1, a.2.1.trans b.2.1, a.2.2.1.trans b.2.2.1, a.2.2.2.trans b.2.2.2⟩
/-- What Classes returns. -/
def caV (l : List Spm) : AV := if ckE l = 0 then .tup [.sl false l.length (i64s (clsL (alQ l) l.length)) .unk, I 0] else .tup [.sl true 0 [] .full, I (ckE l)]
def rcV (l : List Spm) : AV := if ckE l = 0 then .tup [.sl (decide (l.length = 0)) l.length (i64s (clsL (alQ l) l.length)) .unk, I 0] else .tup [.sl true 0 [] .full, I (ckE l)]
set_option maxHeartbeats 4000000 in
theorem r_precedence_Classes (nl : Bool) (l : List Spm) (tl : Tail) (h : AH) : RCall Try.prog n_precedence_ClassesW [.sl nl l.length (sms l) tl] h (caV l) := by
  refine RCall.of hm cF_precedence_ClassesW (by simp [g_precedence_ClassesW]) fun hw h' hl => ?_
  have r1 := r_wear_Alike nl l tl
  by_cases c1 : ckE l = 0
  case neg =>
    unfold paV at r1
    rw [if_neg c1] at r1
    simp only [F_precedence_ClassesW, g_precedence_ClassesW, go_sem, reduceIte, Nat.reduceEqDiff, Nat.reduceAdd, Nat.reduceMul, Nat.reduceSub, reduceCtorEq, Nat.reduceLeDiff, Nat.reduceLT, Int.reduceLT, Int.reduceLE, Int.reduceToNat, Int.reduceAdd, Int.reduceSub, Int.reduceNeg, Int.reduceMul, Int.reduceEq, ← Bool.decide_and, ← Bool.decide_or, ↓tq_n, ↓tq_e, ↓tq_r, ↓bq_n, ↓bq_e, ↓bq_r, ↓rq_n, ↓rq_r, ↓rq_e]
    refine CallG.mk (r1 _) ?_
    simp only [c1, F_precedence_ClassesW, g_precedence_ClassesW, go_sem, reduceIte, Nat.reduceEqDiff, Nat.reduceAdd, Nat.reduceMul, Nat.reduceSub, reduceCtorEq, Nat.reduceLeDiff, Nat.reduceLT, Int.reduceLT, Int.reduceLE, Int.reduceToNat, Int.reduceAdd, Int.reduceSub, Int.reduceNeg, Int.reduceMul, Int.reduceEq, ← Bool.decide_and, ← Bool.decide_or, ↓tq_n, ↓tq_e, ↓tq_r, ↓bq_n, ↓bq_e, ↓bq_r, ↓rq_n, ↓rq_r, ↓rq_e]
    exact ret_ok (by unfold caV; rw [if_neg c1])
  have h64 := ck_64 c1
  have hq := alQ_eq l
  obtain ⟨T, hT⟩ : ∃ T, T = tbK (lat fun i k => alS (l.getD i dS) (l.getD k dS)) l.length l.length := ⟨_, rfl⟩
  have hTl : T.length ≤ 64 * 64 := by
    have h1 := tbK_len (lat fun i k => alS (l.getD i dS) (l.getD k dS)) l.length l.length
    have h2 : l.length * l.length ≤ 64 * 64 := Nat.mul_le_mul h64 h64
    rw [hT]; omega
  have hTm : ∀ x, x ∈ T ↔ ∃ a k : Nat, a < l.length ∧ k < l.length ∧ (a < k ∧ alQ l a k = true) ∧ x = ((a : Int), (k : Int)) := fun x => by
    rw [hT, mem_tbK]
    unfold lat alQ
    simp only [Bool.and_eq_true, decide_eq_true_iff]
  unfold paV at r1
  rw [if_pos c1, ← hT] at r1
  simp only [F_precedence_ClassesW, g_precedence_ClassesW, go_sem, reduceIte, Nat.reduceEqDiff, Nat.reduceAdd, Nat.reduceMul, Nat.reduceSub, reduceCtorEq, Nat.reduceLeDiff, Nat.reduceLT, Int.reduceLT, Int.reduceLE, Int.reduceToNat, Int.reduceAdd, Int.reduceSub, Int.reduceNeg, Int.reduceMul, Int.reduceEq, ← Bool.decide_and, ← Bool.decide_or, ↓tq_n, ↓tq_e, ↓tq_r, ↓bq_n, ↓bq_e, ↓bq_r, ↓rq_n, ↓rq_r, ↓rq_e]
  refine CallG.mk (r1 _) ?_
  simp only [F_precedence_ClassesW, g_precedence_ClassesW, go_sem, reduceIte, Nat.reduceEqDiff, Nat.reduceAdd, Nat.reduceMul, Nat.reduceSub, reduceCtorEq, Nat.reduceLeDiff, Nat.reduceLT, Int.reduceLT, Int.reduceLE, Int.reduceToNat, Int.reduceAdd, Int.reduceSub, Int.reduceNeg, Int.reduceMul, Int.reduceEq, ← Bool.decide_and, ← Bool.decide_or, ↓tq_n, ↓tq_e, ↓tq_r, ↓bq_n, ↓bq_e, ↓bq_r, ↓rq_n, ↓rq_r, ↓rq_e]
  refine CallS.mk (s_slices_Repeat (-1) false .full l.length (by omega) _) fun r H' hr => ?_
  obtain ⟨b5, hb5, rfl, rfl⟩ := hr
  have e0 : List.replicate l.length (I (-1)) = i64s (List.replicate l.length (-1)) := by simp [i64s]
  rw [e0]
  simp only [F_precedence_ClassesW, g_precedence_ClassesW, go_sem, reduceIte, Nat.reduceEqDiff, Nat.reduceAdd, Nat.reduceMul, Nat.reduceSub, reduceCtorEq, Nat.reduceLeDiff, Nat.reduceLT, Int.reduceLT, Int.reduceLE, Int.reduceToNat, Int.reduceAdd, Int.reduceSub, Int.reduceNeg, Int.reduceMul, Int.reduceEq, ← Bool.decide_and, ← Bool.decide_or, ↓tq_n, ↓tq_e, ↓tq_r, ↓bq_n, ↓bq_e, ↓bq_r, ↓rq_n, ↓rq_r, ↓rq_e]
  refine awp_loop (α := Nat × List Int) (fun p => [(4, gl (prs T) T.length .unk), (6, .msl b5 0 l.length (some l.length)), (7, I (ctA (alQ l) p.1)), (24, I l.length), (25, I p.1)]) (fun p => h'.put b5 (i64s p.2)) (fun p => p.1 ≤ l.length ∧ JfA (alQ l) l.length (fun j => fsA (alQ l) j < p.1) p.2) (fun p => l.length - p.1) (0, List.replicate l.length (-1)) ⟨Nat.zero_le _, JfA.ini _ _⟩ (GStep.forget (by repeat' first | exact EnvLe.nil _ | refine EnvLe.cons (AV.le.of_eq rfl) ?_ | refine EnvLe.cons (AV.le.undef _) ?_ | refine EnvLe.cons AV.le.unk ?_) (by repeat' first | exact AH.le.refl _ | assumption | (refine AH.le_put ?_ (by first | assumption | exact (AH.blk_put_ne _ _ (by assumption)).trans (by assumption) | exact AH.none_put (by assumption) | exact AH.none_put (AH.none_put (by assumption)) | (simp only [AH.blk_setTok, AH.tok_put] at *; first | assumption | exact AH.none_put (by assumption)))) | (refine AH.le_setTok ?_ (by first | assumption | exact (AH.blk_put_ne _ _ (by assumption)).trans (by assumption) | exact AH.none_put (by assumption) | exact AH.none_put (AH.none_put (by assumption)) | (simp only [AH.blk_setTok, AH.tok_put] at *; first | assumption | exact AH.none_put (by assumption)))) | (refine AH.le_putM ?_ (by first | assumption | exact (AH.mp_putM_ne _ _ (by assumption)).trans (by assumption) | (simp only [AH.mp_put, AH.mp_setTok] at *; assumption))))) fun p hp => .of_vg hm ?_
  obtain ⟨i, f⟩ := p
  obtain ⟨p1, p2⟩ := hp
  simp only at p1 p2 ⊢
  have hfl := p2.1
  by_cases h3 : i < l.length
  case neg =>
    have h3 : i = l.length := by omega
    subst h3
    simp only [F_precedence_ClassesW, g_precedence_ClassesW, go_sem, reduceIte, Nat.reduceEqDiff, Nat.reduceAdd, Nat.reduceMul, Nat.reduceSub, reduceCtorEq, Nat.reduceLeDiff, Nat.reduceLT, Int.reduceLT, Int.reduceLE, Int.reduceToNat, Int.reduceAdd, Int.reduceSub, Int.reduceNeg, Int.reduceMul, Int.reduceEq, ← Bool.decide_and, ← Bool.decide_or, ↓tq_n, ↓tq_e, ↓tq_r, ↓bq_n, ↓bq_e, ↓bq_r, ↓rq_n, ↓rq_r, ↓rq_e]
    have hend := p2.all fun j hj => Nat.lt_of_le_of_lt (fsA_le hq j) hj
    have := RGh.fix (n := l.length) (cap := some l.length) (h := h'.put b5 (i64s f)) (b := b5) (AH.blk_put _ _ _) 1
    rw [Nat.mul_one, List.take_of_length_le (by rw [i64s_len]; omega)] at this
    subst hend
    exact ⟨_, h', (RGh.tupAt («as» := []) (bs := [I 0]) this).trans (RGh.forget (AV.le.refl _) (le_del (AH.le_put (AH.le.refl _) hb5) hb5)), by unfold caV; rw [if_pos c1]; rfl, rfl⟩
  have hc : (i : Int) < (l.length : Int) := by omega
  have hi0 : (0 : Int) ≤ (i : Int) := by omega
  have hif : i < f.length := by omega
  have hfi := p2.2 i h3
  have hle := fsA_le hq i
  have hct := ctA_le (alQ l) i
  have hmain : ∃ f1 : List Int, f1 = (if f.getD i 0 < 0 then f.set i (ctA (alQ l) i : Int) else f) ∧ JfA (alQ l) l.length (fun j => fsA (alQ l) j < i ∨ j = i) f1 ∧ (f.getD i 0 < 0 → ((ctA (alQ l) i : Int) + 1 = (ctA (alQ l) (i + 1) : Nat))) ∧ (¬ f.getD i 0 < 0 → ctA (alQ l) i = ctA (alQ l) (i + 1)) := by
    refine ⟨_, rfl, ?_⟩
    by_cases h4 : fsA (alQ l) i < i
    · have h5 := hfi.1 h4
      have h6 := clA_pos (alQ l) i
      rw [if_neg (by omega)]
      refine ⟨p2.iff fun j hj => ⟨fun hh => hh.elim id fun e => by rw [e]; exact h4, .inl⟩, fun hh => absurd hh (by omega), fun _ => ?_⟩
      simp only [ctA]
      rw [if_neg (by omega)]
    · have h5 := hfi.2 h4
      rw [if_pos (by omega)]
      have h6 : fsA (alQ l) i = i := by omega
      refine ⟨p2.set h3 (by unfold clA; rw [h6]) fun j hj => Iff.rfl, fun _ => ?_, fun hh => absurd (by omega) hh⟩
      simp only [ctA]
      rw [if_pos h6]
      omega
  obtain ⟨f1, m1, m2, m3, m4⟩ := hmain
  have hin : InR .i64 ((i : Int) + 1) := by rw [inR64]; omega
  have hct2 := ctA_le (alQ l) (i + 1)
  have hin2 : InR .i64 (ctA (alQ l) (i + 1) : Int) := by rw [inR64]; omega
  have hfl1 := m2.1
  have hstep : JfA (alQ l) l.length (fun j => fsA (alQ l) j < i ∨ j = i ∨ ((i : Int), (j : Int)) ∈ T.take 0) f1 := m2.iff fun j hj => by simp
  have hcl : ∀ f2, JfA (alQ l) l.length (fun j => fsA (alQ l) j < i ∨ j = i ∨ ((i : Int), (j : Int)) ∈ T.take T.length) f2 → JfA (alQ l) l.length (fun j => fsA (alQ l) j < i + 1) f2 := fun f2 hf => hf.iff fun j hj => by
    rw [List.take_length, hTm]
    have hj2 := fsA_le hq j
    constructor
    · intro h
      by_cases e1 : fsA (alQ l) j < i
      · exact .inl e1
      · have e2 : fsA (alQ l) j = i := by omega
        have e3 := fsA_q hq j
        rw [e2] at e3 hj2
        by_cases e4 : j = i
        · exact .inr (.inl e4)
        · exact .inr (.inr ⟨i, j, h3, hj, ⟨by omega, e3⟩, rfl⟩)
    · rintro (h | rfl | ⟨a, k, k1, k2, ⟨k3, k4⟩, k5⟩)
      · omega
      · omega
      · have e := Prod.mk.inj k5
        obtain rfl : i = a := by omega
        obtain rfl : j = k := by omega
        have := fsA_min k4
        omega
  by_cases h4 : f.getD i 0 < 0
  · rw [if_pos h4] at m1
    have m3 := m3 h4
    simp only [hc, hi0, i64s_drop hif, h4, m3, F_precedence_ClassesW, g_precedence_ClassesW, go_sem, reduceIte, Nat.reduceEqDiff, Nat.reduceAdd, Nat.reduceMul, Nat.reduceSub, reduceCtorEq, Nat.reduceLeDiff, Nat.reduceLT, Int.reduceLT, Int.reduceLE, Int.reduceToNat, Int.reduceAdd, Int.reduceSub, Int.reduceNeg, Int.reduceMul, Int.reduceEq, ← Bool.decide_and, ← Bool.decide_or, ↓tq_n, ↓tq_e, ↓tq_r, ↓bq_n, ↓bq_e, ↓bq_r, ↓rq_n, ↓rq_r, ↓rq_e]
    refine ⟨by rw [i64s_len]; omega, hin2, ?_⟩
    rw [← i64s_set, ← m1]
    refine awp_loop (α := Nat × List Int) (fun p => [(4, gl (prs T) T.length .unk), (6, .msl b5 0 l.length (some l.length)), (7, I (ctA (alQ l) (i + 1))), (8, I i), (24, I l.length), (25, I i), (39, gl (prs T) T.length .unk), (40, I T.length), (41, I p.1)]) (fun p => h'.put b5 (i64s p.2)) (fun p => p.1 ≤ T.length ∧ JfA (alQ l) l.length (fun j => fsA (alQ l) j < i ∨ j = i ∨ ((i : Int), (j : Int)) ∈ T.take p.1) p.2) (fun p => T.length - p.1) (0, f1) ⟨Nat.zero_le _, hstep⟩ (GStep.forget (by repeat' first | exact EnvLe.nil _ | refine EnvLe.cons (AV.le.of_eq rfl) ?_ | refine EnvLe.cons (AV.le.undef _) ?_ | refine EnvLe.cons AV.le.unk ?_) (by repeat' first | exact AH.le.refl _ | assumption | (refine AH.le_put ?_ (by first | assumption | exact (AH.blk_put_ne _ _ (by assumption)).trans (by assumption) | exact AH.none_put (by assumption) | exact AH.none_put (AH.none_put (by assumption)) | (simp only [AH.blk_setTok, AH.tok_put] at *; first | assumption | exact AH.none_put (by assumption)))) | (refine AH.le_setTok ?_ (by first | assumption | exact (AH.blk_put_ne _ _ (by assumption)).trans (by assumption) | exact AH.none_put (by assumption) | exact AH.none_put (AH.none_put (by assumption)) | (simp only [AH.blk_setTok, AH.tok_put] at *; first | assumption | exact AH.none_put (by assumption)))) | (refine AH.le_putM ?_ (by first | assumption | exact (AH.mp_putM_ne _ _ (by assumption)).trans (by assumption) | (simp only [AH.mp_put, AH.mp_setTok] at *; assumption))))) fun p hp => .of_vg hm ?_
    obtain ⟨k, f2⟩ := p
    obtain ⟨q1, q2⟩ := hp
    simp only at q1 q2 ⊢
    have hfl2 := q2.1
    by_cases h5 : k < T.length
    case neg =>
      have h5 : k = T.length := by omega
      subst h5
      simp only [F_precedence_ClassesW, g_precedence_ClassesW, go_sem, reduceIte, Nat.reduceEqDiff, Nat.reduceAdd, Nat.reduceMul, Nat.reduceSub, reduceCtorEq, Nat.reduceLeDiff, Nat.reduceLT, Int.reduceLT, Int.reduceLE, Int.reduceToNat, Int.reduceAdd, Int.reduceSub, Int.reduceNeg, Int.reduceMul, Int.reduceEq, ← Bool.decide_and, ← Bool.decide_or, ↓tq_n, ↓tq_e, ↓tq_r, ↓bq_n, ↓bq_e, ↓bq_r, ↓rq_n, ↓rq_r, ↓rq_e]
      exact ⟨hin, (i + 1, f2), ⟨by simp only; omega, hcl f2 q2⟩, by simp only; omega, (GStep.forget (by repeat' first | exact EnvLe.nil _ | refine EnvLe.cons (AV.le.of_eq rfl) ?_ | refine EnvLe.cons (AV.le.undef _) ?_ | refine EnvLe.cons AV.le.unk ?_) (by repeat' first | exact AH.le.refl _ | assumption | (refine AH.le_put ?_ (by first | assumption | exact (AH.blk_put_ne _ _ (by assumption)).trans (by assumption) | exact AH.none_put (by assumption) | exact AH.none_put (AH.none_put (by assumption)) | (simp only [AH.blk_setTok, AH.tok_put] at *; first | assumption | exact AH.none_put (by assumption)))) | (refine AH.le_setTok ?_ (by first | assumption | exact (AH.blk_put_ne _ _ (by assumption)).trans (by assumption) | exact AH.none_put (by assumption) | exact AH.none_put (AH.none_put (by assumption)) | (simp only [AH.blk_setTok, AH.tok_put] at *; first | assumption | exact AH.none_put (by assumption)))) | (refine AH.le_putM ?_ (by first | assumption | exact (AH.mp_putM_ne _ _ (by assumption)).trans (by assumption) | (simp only [AH.mp_put, AH.mp_setTok] at *; assumption)))))⟩
    have hck : (k : Int) < (T.length : Int) := by omega
    obtain ⟨a, c, k1, k2, ⟨k3, k4⟩, k5⟩ := (hTm _).1 (mem_getD (d := (0, 0)) h5)
    have htk : T.take (k + 1) = T.take k ++ [((a : Int), (c : Int))] := by rw [take_getD (0, 0) h5, k5]
    have hp1 : (T.getD k (0, 0)).1 = a := by rw [k5]
    have hp2 : (T.getD k (0, 0)).2 = c := by rw [k5]
    by_cases h6 : a = i
    case neg =>
      have h6c : ¬ (a : Int) = (i : Int) := by omega
      simp only [hck, prs_drop h5, hp1, hp2, h6c, F_precedence_ClassesW, g_precedence_ClassesW, go_sem, reduceIte, Nat.reduceEqDiff, Nat.reduceAdd, Nat.reduceMul, Nat.reduceSub, reduceCtorEq, Nat.reduceLeDiff, Nat.reduceLT, Int.reduceLT, Int.reduceLE, Int.reduceToNat, Int.reduceAdd, Int.reduceSub, Int.reduceNeg, Int.reduceMul, Int.reduceEq, ← Bool.decide_and, ← Bool.decide_or, ↓tq_n, ↓tq_e, ↓tq_r, ↓bq_n, ↓bq_e, ↓bq_r, ↓rq_n, ↓rq_r, ↓rq_e]
      exact ⟨by rw [inR64]; omega, (k + 1, f2), ⟨by simp only; omega, q2.iff fun j hj => by
        simp only [htk, List.mem_append, List.mem_singleton, Prod.mk.injEq]
        exact ⟨fun hh => by
          rcases hh with h | h | h | h
          · exact .inl h
          · exact .inr (.inl h)
          · exact .inr (.inr h)
          · omega, fun hh => by
          rcases hh with h | h | h
          · exact .inl h
          · exact .inr (.inl h)
          · exact .inr (.inr (.inl h))⟩⟩, by simp only; omega, (GStep.forget (by repeat' first | exact EnvLe.nil _ | refine EnvLe.cons (AV.le.of_eq rfl) ?_ | refine EnvLe.cons (AV.le.undef _) ?_ | refine EnvLe.cons AV.le.unk ?_) (by repeat' first | exact AH.le.refl _ | assumption | (refine AH.le_put ?_ (by first | assumption | exact (AH.blk_put_ne _ _ (by assumption)).trans (by assumption) | exact AH.none_put (by assumption) | exact AH.none_put (AH.none_put (by assumption)) | (simp only [AH.blk_setTok, AH.tok_put] at *; first | assumption | exact AH.none_put (by assumption)))) | (refine AH.le_setTok ?_ (by first | assumption | exact (AH.blk_put_ne _ _ (by assumption)).trans (by assumption) | exact AH.none_put (by assumption) | exact AH.none_put (AH.none_put (by assumption)) | (simp only [AH.blk_setTok, AH.tok_put] at *; first | assumption | exact AH.none_put (by assumption)))) | (refine AH.le_putM ?_ (by first | assumption | exact (AH.mp_putM_ne _ _ (by assumption)).trans (by assumption) | (simp only [AH.mp_put, AH.mp_setTok] at *; assumption)))))⟩
    subst h6
    have hcc : (c : Int) < (l.length : Int) := by omega
    have hc0 : (0 : Int) ≤ (c : Int) := by omega
    have haf : a < f2.length := by omega
    have hv : f2.getD a 0 = clA (alQ l) c := by rw [(q2.2 a h3).1 (.inr (.inl rfl))]; exact clA_eq hq k4
    simp only [hck, prs_drop h5, hp1, hp2, hc, hi0, hcc, hc0, i64s_drop haf, F_precedence_ClassesW, g_precedence_ClassesW, go_sem, reduceIte, Nat.reduceEqDiff, Nat.reduceAdd, Nat.reduceMul, Nat.reduceSub, reduceCtorEq, Nat.reduceLeDiff, Nat.reduceLT, Int.reduceLT, Int.reduceLE, Int.reduceToNat, Int.reduceAdd, Int.reduceSub, Int.reduceNeg, Int.reduceMul, Int.reduceEq, ← Bool.decide_and, ← Bool.decide_or, ↓tq_n, ↓tq_e, ↓tq_r, ↓bq_n, ↓bq_e, ↓bq_r, ↓rq_n, ↓rq_r, ↓rq_e]
    refine ⟨by rw [i64s_len]; omega, by rw [inR64]; omega, (k + 1, f2.set c (f2.getD a 0)), ⟨by simp only; omega, q2.set k2 hv fun j hj => by
        simp only [htk, List.mem_append, List.mem_singleton, Prod.mk.injEq]
        exact ⟨fun hh => by
          rcases hh with h | h | h | h
          · exact .inl (.inl h)
          · exact .inl (.inr (.inl h))
          · exact .inl (.inr (.inr h))
          · exact .inr (by omega), fun hh => by
          rcases hh with (h | h | h) | h
          · exact .inl h
          · exact .inr (.inl h)
          · exact .inr (.inr (.inl h))
          · exact .inr (.inr (.inr ⟨trivial, by omega⟩))⟩⟩, by simp only; omega, ?_⟩
    rw [i64s_set]
    exact (GStep.forget (by repeat' first | exact EnvLe.nil _ | refine EnvLe.cons (AV.le.of_eq rfl) ?_ | refine EnvLe.cons (AV.le.undef _) ?_ | refine EnvLe.cons AV.le.unk ?_) (by repeat' first | exact AH.le.refl _ | assumption | (refine AH.le_put ?_ (by first | assumption | exact (AH.blk_put_ne _ _ (by assumption)).trans (by assumption) | exact AH.none_put (by assumption) | exact AH.none_put (AH.none_put (by assumption)) | (simp only [AH.blk_setTok, AH.tok_put] at *; first | assumption | exact AH.none_put (by assumption)))) | (refine AH.le_setTok ?_ (by first | assumption | exact (AH.blk_put_ne _ _ (by assumption)).trans (by assumption) | exact AH.none_put (by assumption) | exact AH.none_put (AH.none_put (by assumption)) | (simp only [AH.blk_setTok, AH.tok_put] at *; first | assumption | exact AH.none_put (by assumption)))) | (refine AH.le_putM ?_ (by first | assumption | exact (AH.mp_putM_ne _ _ (by assumption)).trans (by assumption) | (simp only [AH.mp_put, AH.mp_setTok] at *; assumption)))))
  · rw [if_neg h4] at m1
    have m4 := m4 h4
    rw [← m1] at hif h4
    rw [← m1, m4]
    simp only [hc, hi0, i64s_drop hif, h4, F_precedence_ClassesW, g_precedence_ClassesW, go_sem, reduceIte, Nat.reduceEqDiff, Nat.reduceAdd, Nat.reduceMul, Nat.reduceSub, reduceCtorEq, Nat.reduceLeDiff, Nat.reduceLT, Int.reduceLT, Int.reduceLE, Int.reduceToNat, Int.reduceAdd, Int.reduceSub, Int.reduceNeg, Int.reduceMul, Int.reduceEq, ← Bool.decide_and, ← Bool.decide_or, ↓tq_n, ↓tq_e, ↓tq_r, ↓bq_n, ↓bq_e, ↓bq_r, ↓rq_n, ↓rq_r, ↓rq_e]
    refine awp_loop (α := Nat × List Int) (fun p => [(4, gl (prs T) T.length .unk), (6, .msl b5 0 l.length (some l.length)), (7, I (ctA (alQ l) (i + 1))), (8, I i), (24, I l.length), (25, I i), (39, gl (prs T) T.length .unk), (40, I T.length), (41, I p.1)]) (fun p => h'.put b5 (i64s p.2)) (fun p => p.1 ≤ T.length ∧ JfA (alQ l) l.length (fun j => fsA (alQ l) j < i ∨ j = i ∨ ((i : Int), (j : Int)) ∈ T.take p.1) p.2) (fun p => T.length - p.1) (0, f1) ⟨Nat.zero_le _, hstep⟩ (GStep.forget (by repeat' first | exact EnvLe.nil _ | refine EnvLe.cons (AV.le.of_eq rfl) ?_ | refine EnvLe.cons (AV.le.undef _) ?_ | refine EnvLe.cons AV.le.unk ?_) (by repeat' first | exact AH.le.refl _ | assumption | (refine AH.le_put ?_ (by first | assumption | exact (AH.blk_put_ne _ _ (by assumption)).trans (by assumption) | exact AH.none_put (by assumption) | exact AH.none_put (AH.none_put (by assumption)) | (simp only [AH.blk_setTok, AH.tok_put] at *; first | assumption | exact AH.none_put (by assumption)))) | (refine AH.le_setTok ?_ (by first | assumption | exact (AH.blk_put_ne _ _ (by assumption)).trans (by assumption) | exact AH.none_put (by assumption) | exact AH.none_put (AH.none_put (by assumption)) | (simp only [AH.blk_setTok, AH.tok_put] at *; first | assumption | exact AH.none_put (by assumption)))) | (refine AH.le_putM ?_ (by first | assumption | exact (AH.mp_putM_ne _ _ (by assumption)).trans (by assumption) | (simp only [AH.mp_put, AH.mp_setTok] at *; assumption))))) fun p hp => .of_vg hm ?_
    obtain ⟨k, f2⟩ := p
    obtain ⟨q1, q2⟩ := hp
    simp only at q1 q2 ⊢
    have hfl2 := q2.1
    by_cases h5 : k < T.length
    case neg =>
      have h5 : k = T.length := by omega
      subst h5
      simp only [F_precedence_ClassesW, g_precedence_ClassesW, go_sem, reduceIte, Nat.reduceEqDiff, Nat.reduceAdd, Nat.reduceMul, Nat.reduceSub, reduceCtorEq, Nat.reduceLeDiff, Nat.reduceLT, Int.reduceLT, Int.reduceLE, Int.reduceToNat, Int.reduceAdd, Int.reduceSub, Int.reduceNeg, Int.reduceMul, Int.reduceEq, ← Bool.decide_and, ← Bool.decide_or, ↓tq_n, ↓tq_e, ↓tq_r, ↓bq_n, ↓bq_e, ↓bq_r, ↓rq_n, ↓rq_r, ↓rq_e]
      exact ⟨hin, (i + 1, f2), ⟨by simp only; omega, hcl f2 q2⟩, by simp only; omega, (GStep.forget (by repeat' first | exact EnvLe.nil _ | refine EnvLe.cons (AV.le.of_eq rfl) ?_ | refine EnvLe.cons (AV.le.undef _) ?_ | refine EnvLe.cons AV.le.unk ?_) (by repeat' first | exact AH.le.refl _ | assumption | (refine AH.le_put ?_ (by first | assumption | exact (AH.blk_put_ne _ _ (by assumption)).trans (by assumption) | exact AH.none_put (by assumption) | exact AH.none_put (AH.none_put (by assumption)) | (simp only [AH.blk_setTok, AH.tok_put] at *; first | assumption | exact AH.none_put (by assumption)))) | (refine AH.le_setTok ?_ (by first | assumption | exact (AH.blk_put_ne _ _ (by assumption)).trans (by assumption) | exact AH.none_put (by assumption) | exact AH.none_put (AH.none_put (by assumption)) | (simp only [AH.blk_setTok, AH.tok_put] at *; first | assumption | exact AH.none_put (by assumption)))) | (refine AH.le_putM ?_ (by first | assumption | exact (AH.mp_putM_ne _ _ (by assumption)).trans (by assumption) | (simp only [AH.mp_put, AH.mp_setTok] at *; assumption)))))⟩
    have hck : (k : Int) < (T.length : Int) := by omega
    obtain ⟨a, c, k1, k2, ⟨k3, k4⟩, k5⟩ := (hTm _).1 (mem_getD (d := (0, 0)) h5)
    have htk : T.take (k + 1) = T.take k ++ [((a : Int), (c : Int))] := by rw [take_getD (0, 0) h5, k5]
    have hp1 : (T.getD k (0, 0)).1 = a := by rw [k5]
    have hp2 : (T.getD k (0, 0)).2 = c := by rw [k5]
    by_cases h6 : a = i
    case neg =>
      have h6c : ¬ (a : Int) = (i : Int) := by omega
      simp only [hck, prs_drop h5, hp1, hp2, h6c, F_precedence_ClassesW, g_precedence_ClassesW, go_sem, reduceIte, Nat.reduceEqDiff, Nat.reduceAdd, Nat.reduceMul, Nat.reduceSub, reduceCtorEq, Nat.reduceLeDiff, Nat.reduceLT, Int.reduceLT, Int.reduceLE, Int.reduceToNat, Int.reduceAdd, Int.reduceSub, Int.reduceNeg, Int.reduceMul, Int.reduceEq, ← Bool.decide_and, ← Bool.decide_or, ↓tq_n, ↓tq_e, ↓tq_r, ↓bq_n, ↓bq_e, ↓bq_r, ↓rq_n, ↓rq_r, ↓rq_e]
      exact ⟨by rw [inR64]; omega, (k + 1, f2), ⟨by simp only; omega, q2.iff fun j hj => by
        simp only [htk, List.mem_append, List.mem_singleton, Prod.mk.injEq]
        exact ⟨fun hh => by
          rcases hh with h | h | h | h
          · exact .inl h
          · exact .inr (.inl h)
          · exact .inr (.inr h)
          · omega, fun hh => by
          rcases hh with h | h | h
          · exact .inl h
          · exact .inr (.inl h)
          · exact .inr (.inr (.inl h))⟩⟩, by simp only; omega, (GStep.forget (by repeat' first | exact EnvLe.nil _ | refine EnvLe.cons (AV.le.of_eq rfl) ?_ | refine EnvLe.cons (AV.le.undef _) ?_ | refine EnvLe.cons AV.le.unk ?_) (by repeat' first | exact AH.le.refl _ | assumption | (refine AH.le_put ?_ (by first | assumption | exact (AH.blk_put_ne _ _ (by assumption)).trans (by assumption) | exact AH.none_put (by assumption) | exact AH.none_put (AH.none_put (by assumption)) | (simp only [AH.blk_setTok, AH.tok_put] at *; first | assumption | exact AH.none_put (by assumption)))) | (refine AH.le_setTok ?_ (by first | assumption | exact (AH.blk_put_ne _ _ (by assumption)).trans (by assumption) | exact AH.none_put (by assumption) | exact AH.none_put (AH.none_put (by assumption)) | (simp only [AH.blk_setTok, AH.tok_put] at *; first | assumption | exact AH.none_put (by assumption)))) | (refine AH.le_putM ?_ (by first | assumption | exact (AH.mp_putM_ne _ _ (by assumption)).trans (by assumption) | (simp only [AH.mp_put, AH.mp_setTok] at *; assumption)))))⟩
    subst h6
    have hcc : (c : Int) < (l.length : Int) := by omega
    have hc0 : (0 : Int) ≤ (c : Int) := by omega
    have haf : a < f2.length := by omega
    have hv : f2.getD a 0 = clA (alQ l) c := by rw [(q2.2 a h3).1 (.inr (.inl rfl))]; exact clA_eq hq k4
    simp only [hck, prs_drop h5, hp1, hp2, hc, hi0, hcc, hc0, i64s_drop haf, F_precedence_ClassesW, g_precedence_ClassesW, go_sem, reduceIte, Nat.reduceEqDiff, Nat.reduceAdd, Nat.reduceMul, Nat.reduceSub, reduceCtorEq, Nat.reduceLeDiff, Nat.reduceLT, Int.reduceLT, Int.reduceLE, Int.reduceToNat, Int.reduceAdd, Int.reduceSub, Int.reduceNeg, Int.reduceMul, Int.reduceEq, ← Bool.decide_and, ← Bool.decide_or, ↓tq_n, ↓tq_e, ↓tq_r, ↓bq_n, ↓bq_e, ↓bq_r, ↓rq_n, ↓rq_r, ↓rq_e]
    refine ⟨by rw [i64s_len]; omega, by rw [inR64]; omega, (k + 1, f2.set c (f2.getD a 0)), ⟨by simp only; omega, q2.set k2 hv fun j hj => by
        simp only [htk, List.mem_append, List.mem_singleton, Prod.mk.injEq]
        exact ⟨fun hh => by
          rcases hh with h | h | h | h
          · exact .inl (.inl h)
          · exact .inl (.inr (.inl h))
          · exact .inl (.inr (.inr h))
          · exact .inr (by omega), fun hh => by
          rcases hh with (h | h | h) | h
          · exact .inl h
          · exact .inr (.inl h)
          · exact .inr (.inr (.inl h))
          · exact .inr (.inr (.inr ⟨trivial, by omega⟩))⟩⟩, by simp only; omega, ?_⟩
    rw [i64s_set]
    exact (GStep.forget (by repeat' first | exact EnvLe.nil _ | refine EnvLe.cons (AV.le.of_eq rfl) ?_ | refine EnvLe.cons (AV.le.undef _) ?_ | refine EnvLe.cons AV.le.unk ?_) (by repeat' first | exact AH.le.refl _ | assumption | (refine AH.le_put ?_ (by first | assumption | exact (AH.blk_put_ne _ _ (by assumption)).trans (by assumption) | exact AH.none_put (by assumption) | exact AH.none_put (AH.none_put (by assumption)) | (simp only [AH.blk_setTok, AH.tok_put] at *; first | assumption | exact AH.none_put (by assumption)))) | (refine AH.le_setTok ?_ (by first | assumption | exact (AH.blk_put_ne _ _ (by assumption)).trans (by assumption) | exact AH.none_put (by assumption) | exact AH.none_put (AH.none_put (by assumption)) | (simp only [AH.blk_setTok, AH.tok_put] at *; first | assumption | exact AH.none_put (by assumption)))) | (refine AH.le_putM ?_ (by first | assumption | exact (AH.mp_putM_ne _ _ (by assumption)).trans (by assumption) | (simp only [AH.mp_put, AH.mp_setTok] at *; assumption)))))
theorem r_base_Specimens (nl1 : Bool) (xs : List Spm) (tl1 : Tail) (nl2 : Bool) (ys : List Spm) (tl2 : Tail) (h : AH) :
    RCall Try.prog n_base_Specimens [.sl nl1 xs.length (sms xs) tl1, .sl nl2 ys.length (sms ys) tl2] h (.bool (decide (xs = ys))) := by
  refine RCall.of hm cF_base_Specimens (by simp [g_base_Specimens]) fun hw h' _ => ?_
  have hx := wf_len (hw _ (.head _))
  simp only [F_base_Specimens, g_base_Specimens, go_sem, reduceIte, Nat.reduceEqDiff, Nat.reduceAdd, Nat.reduceMul, Nat.reduceSub, reduceCtorEq, Nat.reduceLeDiff, Nat.reduceLT, Int.reduceLT, Int.reduceLE, Int.reduceToNat, Int.reduceAdd, Int.reduceSub, Int.reduceNeg, Int.reduceMul, Int.reduceEq, ← Bool.decide_and, ← Bool.decide_or, ↓tq_n, ↓tq_e, ↓tq_r, ↓bq_n, ↓bq_e, ↓bq_r, ↓rq_n, ↓rq_r, ↓rq_e]
  refine ⟨fun hne => ?_, fun heq => ?_⟩
  · have : xs ≠ ys := fun hh => by subst hh; exact hne rfl
    exact ret_ok (by simp [this])
  have hl : xs.length = ys.length := by omega
  refine awp_loop (fun i : Nat => [(0, .sl nl1 xs.length (sms xs) tl1), (1, .sl nl2 ys.length (sms ys) tl2), (5, I i)]) (fun _ => h') (fun i => i ≤ xs.length ∧ ∀ j, j < i → xs.getD j dS = ys.getD j dS) (fun i => xs.length - i) 0 ⟨by omega, by omega⟩ (GStep.forget (by repeat' first | exact EnvLe.nil _ | refine EnvLe.cons (AV.le.of_eq rfl) ?_ | refine EnvLe.cons (AV.le.undef _) ?_ | refine EnvLe.cons AV.le.unk ?_) (by repeat' first | exact AH.le.refl _ | assumption | (refine AH.le_put ?_ (by first | assumption | exact (AH.blk_put_ne _ _ (by assumption)).trans (by assumption) | exact AH.none_put (by assumption) | exact AH.none_put (AH.none_put (by assumption)) | (simp only [AH.blk_setTok, AH.tok_put] at *; first | assumption | exact AH.none_put (by assumption)))) | (refine AH.le_setTok ?_ (by first | assumption | exact (AH.blk_put_ne _ _ (by assumption)).trans (by assumption) | exact AH.none_put (by assumption) | exact AH.none_put (AH.none_put (by assumption)) | (simp only [AH.blk_setTok, AH.tok_put] at *; first | assumption | exact AH.none_put (by assumption)))) | (refine AH.le_putM ?_ (by first | assumption | exact (AH.mp_putM_ne _ _ (by assumption)).trans (by assumption) | (simp only [AH.mp_put, AH.mp_setTok] at *; assumption))))) fun i hi => .of_vg hm ?_
  obtain ⟨h1, h2⟩ := hi
  by_cases hc : i < xs.length
  · have hc1 : (i : Int) < (xs.length : Int) := by omega
    have hc2 : (i : Int) < (ys.length : Int) := by omega
    simp only [hc1, hc2, sms_drop hc, sms_drop (show i < ys.length by omega), eqCells, F_base_Specimens, g_base_Specimens, go_sem, reduceIte, Nat.reduceEqDiff, Nat.reduceAdd, Nat.reduceMul, Nat.reduceSub, reduceCtorEq, Nat.reduceLeDiff, Nat.reduceLT, Int.reduceLT, Int.reduceLE, Int.reduceToNat, Int.reduceAdd, Int.reduceSub, Int.reduceNeg, Int.reduceMul, Int.reduceEq, ← Bool.decide_and, ← Bool.decide_or, ↓tq_n, ↓tq_e, ↓tq_r, ↓bq_n, ↓bq_e, ↓bq_r, ↓rq_n, ↓rq_r, ↓rq_e]
    refine ⟨fun hne => ?_, fun heq' => ?_⟩
    · have : xs ≠ ys := fun hh => by subst hh; exact hne ⟨rfl, rfl, rfl, rfl, rfl, rfl, rfl⟩
      exact ret_ok (by simp [this])
    · have e1 : xs.getD i dS = ys.getD i dS := Spm.ext' heq'
      exact ⟨by rw [inR64]; omega, i + 1, ⟨by omega, all_succ h2 e1⟩, by omega, (GStep.forget (by repeat' first | exact EnvLe.nil _ | refine EnvLe.cons (AV.le.of_eq rfl) ?_ | refine EnvLe.cons (AV.le.undef _) ?_ | refine EnvLe.cons AV.le.unk ?_) (by repeat' first | exact AH.le.refl _ | assumption | (refine AH.le_put ?_ (by first | assumption | exact (AH.blk_put_ne _ _ (by assumption)).trans (by assumption) | exact AH.none_put (by assumption) | exact AH.none_put (AH.none_put (by assumption)) | (simp only [AH.blk_setTok, AH.tok_put] at *; first | assumption | exact AH.none_put (by assumption)))) | (refine AH.le_setTok ?_ (by first | assumption | exact (AH.blk_put_ne _ _ (by assumption)).trans (by assumption) | exact AH.none_put (by assumption) | exact AH.none_put (AH.none_put (by assumption)) | (simp only [AH.blk_setTok, AH.tok_put] at *; first | assumption | exact AH.none_put (by assumption)))) | (refine AH.le_putM ?_ (by first | assumption | exact (AH.mp_putM_ne _ _ (by assumption)).trans (by assumption) | (simp only [AH.mp_put, AH.mp_setTok] at *; assumption)))))⟩
  · have h3 : i = xs.length := by omega
    subst h3
    simp only [F_base_Specimens, g_base_Specimens, go_sem, reduceIte, Nat.reduceEqDiff, Nat.reduceAdd, Nat.reduceMul, Nat.reduceSub, reduceCtorEq, Nat.reduceLeDiff, Nat.reduceLT, Int.reduceLT, Int.reduceLE, Int.reduceToNat, Int.reduceAdd, Int.reduceSub, Int.reduceNeg, Int.reduceMul, Int.reduceEq, ← Bool.decide_and, ← Bool.decide_or, ↓tq_n, ↓tq_e, ↓tq_r, ↓bq_n, ↓bq_e, ↓bq_r, ↓rq_n, ↓rq_r, ↓rq_e]
    have : xs = ys := getD_gext dS hl h2
    exact ret_ok (by simp [this])
set_option maxHeartbeats 2000000 in
theorem r_ref_Classes (nl : Bool) (l : List Spm) (tl : Tail) (h : AH) : RCall Try.prog n_ref_Classes [.sl nl l.length (sms l) tl] h (rcV l) := by
  refine RCall.of hm cF_ref_Classes (by simp [g_ref_Classes]) fun hw h' hl => ?_
  simp only [F_ref_Classes, g_ref_Classes, go_sem, reduceIte, Nat.reduceEqDiff, Nat.reduceAdd, Nat.reduceMul, Nat.reduceSub, reduceCtorEq, Nat.reduceLeDiff, Nat.reduceLT, Int.reduceLT, Int.reduceLE, Int.reduceToNat, Int.reduceAdd, Int.reduceSub, Int.reduceNeg, Int.reduceMul, Int.reduceEq, ← Bool.decide_and, ← Bool.decide_or, ↓tq_n, ↓tq_e, ↓tq_r, ↓bq_n, ↓bq_e, ↓bq_r, ↓rq_n, ↓rq_r, ↓rq_e]
  refine CallG.mk (r_base_Check nl l tl _) ?_
  by_cases c1 : ckE l = 0
  case neg =>
    simp only [c1, F_ref_Classes, g_ref_Classes, go_sem, reduceIte, Nat.reduceEqDiff, Nat.reduceAdd, Nat.reduceMul, Nat.reduceSub, reduceCtorEq, Nat.reduceLeDiff, Nat.reduceLT, Int.reduceLT, Int.reduceLE, Int.reduceToNat, Int.reduceAdd, Int.reduceSub, Int.reduceNeg, Int.reduceMul, Int.reduceEq, ← Bool.decide_and, ← Bool.decide_or, ↓tq_n, ↓tq_e, ↓tq_r, ↓bq_n, ↓bq_e, ↓bq_r, ↓rq_n, ↓rq_r, ↓rq_e]
    exact ret_ok (by unfold rcV; rw [if_neg c1])
  have h64 := ck_64 c1
  have hq := alQ_eq l
  simp only [c1, F_ref_Classes, g_ref_Classes, go_sem, reduceIte, Nat.reduceEqDiff, Nat.reduceAdd, Nat.reduceMul, Nat.reduceSub, reduceCtorEq, Nat.reduceLeDiff, Nat.reduceLT, Int.reduceLT, Int.reduceLE, Int.reduceToNat, Int.reduceAdd, Int.reduceSub, Int.reduceNeg, Int.reduceMul, Int.reduceEq, ← Bool.decide_and, ← Bool.decide_or, ↓tq_n, ↓tq_e, ↓tq_r, ↓bq_n, ↓bq_e, ↓bq_r, ↓rq_n, ↓rq_r, ↓rq_e]
  refine awp_tok 5 1 (nl := true) (n := 0) (cs := []) rfl fun t ht => ?_
  refine awp_loop (fun i : Nat => [(0, .sl nl l.length (sms l) tl), (5, gl (i64s (clsL (alQ l) i)) (clsL (alQ l) i).length (.tok t)), (6, I (ctA (alQ l) i)), (7, I i)]) (fun i => h'.setTok t (clsL (alQ l) i).length 1) (fun i => i ≤ l.length) (fun i => l.length - i) 0 (Nat.zero_le _) (GStep.forget (by repeat' first | exact EnvLe.nil _ | refine EnvLe.cons (AV.le.of_eq rfl) ?_ | refine EnvLe.cons (AV.le.undef _) ?_ | refine EnvLe.cons AV.le.unk ?_) (by repeat' first | exact AH.le.refl _ | assumption | (refine AH.le_put ?_ (by first | assumption | exact (AH.blk_put_ne _ _ (by assumption)).trans (by assumption) | exact AH.none_put (by assumption) | exact AH.none_put (AH.none_put (by assumption)) | (simp only [AH.blk_setTok, AH.tok_put] at *; first | assumption | exact AH.none_put (by assumption)))) | (refine AH.le_setTok ?_ (by first | assumption | exact (AH.blk_put_ne _ _ (by assumption)).trans (by assumption) | exact AH.none_put (by assumption) | exact AH.none_put (AH.none_put (by assumption)) | (simp only [AH.blk_setTok, AH.tok_put] at *; first | assumption | exact AH.none_put (by assumption)))) | (refine AH.le_putM ?_ (by first | assumption | exact (AH.mp_putM_ne _ _ (by assumption)).trans (by assumption) | (simp only [AH.mp_put, AH.mp_setTok] at *; assumption))))) fun i hi => .of_vg hm ?_
  have hcl := clsL_len (alQ l) i
  have hsucc := clsL_succ (alQ l) i
  by_cases h3 : i < l.length
  case neg =>
    have h3 : i = l.length := by omega
    subst h3
    simp only [F_ref_Classes, g_ref_Classes, go_sem, reduceIte, Nat.reduceEqDiff, Nat.reduceAdd, Nat.reduceMul, Nat.reduceSub, reduceCtorEq, Nat.reduceLeDiff, Nat.reduceLT, Int.reduceLT, Int.reduceLE, Int.reduceToNat, Int.reduceAdd, Int.reduceSub, Int.reduceNeg, Int.reduceMul, Int.reduceEq, ← Bool.decide_and, ← Bool.decide_or, ↓tq_n, ↓tq_e, ↓tq_r, ↓bq_n, ↓bq_e, ↓bq_r, ↓rq_n, ↓rq_r, ↓rq_e]
    have hcv : rcV l = .tup [.sl (decide (l.length = 0)) l.length (i64s (clsL (alQ l) l.length)) .unk, I 0] := by unfold rcV; rw [if_pos c1]
    rw [hcv, hcl]
    exact ret_le (by repeat' first | exact AH.le.refl _ | assumption | (refine AH.le_put ?_ (by first | assumption | exact (AH.blk_put_ne _ _ (by assumption)).trans (by assumption) | exact AH.none_put (by assumption) | exact AH.none_put (AH.none_put (by assumption)) | (simp only [AH.blk_setTok, AH.tok_put] at *; first | assumption | exact AH.none_put (by assumption)))) | (refine AH.le_setTok ?_ (by first | assumption | exact (AH.blk_put_ne _ _ (by assumption)).trans (by assumption) | exact AH.none_put (by assumption) | exact AH.none_put (AH.none_put (by assumption)) | (simp only [AH.blk_setTok, AH.tok_put] at *; first | assumption | exact AH.none_put (by assumption)))) | (refine AH.le_putM ?_ (by first | assumption | exact (AH.mp_putM_ne _ _ (by assumption)).trans (by assumption) | (simp only [AH.mp_put, AH.mp_setTok] at *; assumption)))) (AV.le.tupC (.cons AV.le.glU (.cons (AV.le.refl _) .nil)))
  have hc : (i : Int) < (l.length : Int) := by omega
  have hi0 : (0 : Int) ≤ (i : Int) := by omega
  have hle := fsA_le hq i
  have hct := ctA_le (alQ l) i
  simp only [hc, F_ref_Classes, g_ref_Classes, go_sem, reduceIte, Nat.reduceEqDiff, Nat.reduceAdd, Nat.reduceMul, Nat.reduceSub, reduceCtorEq, Nat.reduceLeDiff, Nat.reduceLT, Int.reduceLT, Int.reduceLE, Int.reduceToNat, Int.reduceAdd, Int.reduceSub, Int.reduceNeg, Int.reduceMul, Int.reduceEq, ← Bool.decide_and, ← Bool.decide_or, ↓tq_n, ↓tq_e, ↓tq_r, ↓bq_n, ↓bq_e, ↓bq_r, ↓rq_n, ↓rq_r, ↓rq_e]
  refine awp_loop (fun k : Nat => [(0, .sl nl l.length (sms l) tl), (5, gl (i64s (clsL (alQ l) i)) (clsL (alQ l) i).length (.tok t)), (6, I (ctA (alQ l) i)), (7, I i), (8, I k)]) (fun k => h'.setTok t (clsL (alQ l) i).length 1) (fun k => k ≤ fsA (alQ l) i) (fun k => fsA (alQ l) i - k) 0 (Nat.zero_le _) (GStep.forget (by repeat' first | exact EnvLe.nil _ | refine EnvLe.cons (AV.le.of_eq rfl) ?_ | refine EnvLe.cons (AV.le.undef _) ?_ | refine EnvLe.cons AV.le.unk ?_) (by repeat' first | exact AH.le.refl _ | assumption | (refine AH.le_put ?_ (by first | assumption | exact (AH.blk_put_ne _ _ (by assumption)).trans (by assumption) | exact AH.none_put (by assumption) | exact AH.none_put (AH.none_put (by assumption)) | (simp only [AH.blk_setTok, AH.tok_put] at *; first | assumption | exact AH.none_put (by assumption)))) | (refine AH.le_setTok ?_ (by first | assumption | exact (AH.blk_put_ne _ _ (by assumption)).trans (by assumption) | exact AH.none_put (by assumption) | exact AH.none_put (AH.none_put (by assumption)) | (simp only [AH.blk_setTok, AH.tok_put] at *; first | assumption | exact AH.none_put (by assumption)))) | (refine AH.le_putM ?_ (by first | assumption | exact (AH.mp_putM_ne _ _ (by assumption)).trans (by assumption) | (simp only [AH.mp_put, AH.mp_setTok] at *; assumption))))) fun k hk => .of_vg hm ?_
  have h4 : k < l.length := by omega
  have hck : (k : Int) < (l.length : Int) := by omega
  have hk0 : (0 : Int) ≤ (k : Int) := by omega
  simp only [hc, hck, hi0, hk0, sms_drop h3, sms_drop h4, F_ref_Classes, g_ref_Classes, go_sem, reduceIte, Nat.reduceEqDiff, Nat.reduceAdd, Nat.reduceMul, Nat.reduceSub, reduceCtorEq, Nat.reduceLeDiff, Nat.reduceLT, Int.reduceLT, Int.reduceLE, Int.reduceToNat, Int.reduceAdd, Int.reduceSub, Int.reduceNeg, Int.reduceMul, Int.reduceEq, ← Bool.decide_and, ← Bool.decide_or, ↓tq_n, ↓tq_e, ↓tq_r, ↓bq_n, ↓bq_e, ↓bq_r, ↓rq_n, ↓rq_r, ↓rq_e]
  refine CallG.mk (r_ref_Same _ _ _) ?_
  have hqk : alS (l.getD k dS) (l.getD i dS) = alQ l k i := rfl
  by_cases h5 : k = fsA (alQ l) i
  case neg =>
    have h6 : alQ l k i = false := Bool.eq_false_iff.2 fun hh => h5 (by have := fsA_min hh; omega)
    simp only [hqk, h6, F_ref_Classes, g_ref_Classes, go_sem, reduceIte, Nat.reduceEqDiff, Nat.reduceAdd, Nat.reduceMul, Nat.reduceSub, reduceCtorEq, Nat.reduceLeDiff, Nat.reduceLT, Int.reduceLT, Int.reduceLE, Int.reduceToNat, Int.reduceAdd, Int.reduceSub, Int.reduceNeg, Int.reduceMul, Int.reduceEq, ← Bool.decide_and, ← Bool.decide_or, ↓tq_n, ↓tq_e, ↓tq_r, ↓bq_n, ↓bq_e, ↓bq_r, ↓rq_n, ↓rq_r, ↓rq_e]
    exact ⟨by rw [inR64]; omega, k + 1, by omega, by omega, (GStep.forget (by repeat' first | exact EnvLe.nil _ | refine EnvLe.cons (AV.le.of_eq rfl) ?_ | refine EnvLe.cons (AV.le.undef _) ?_ | refine EnvLe.cons AV.le.unk ?_) (by repeat' first | exact AH.le.refl _ | assumption | (refine AH.le_put ?_ (by first | assumption | exact (AH.blk_put_ne _ _ (by assumption)).trans (by assumption) | exact AH.none_put (by assumption) | exact AH.none_put (AH.none_put (by assumption)) | (simp only [AH.blk_setTok, AH.tok_put] at *; first | assumption | exact AH.none_put (by assumption)))) | (refine AH.le_setTok ?_ (by first | assumption | exact (AH.blk_put_ne _ _ (by assumption)).trans (by assumption) | exact AH.none_put (by assumption) | exact AH.none_put (AH.none_put (by assumption)) | (simp only [AH.blk_setTok, AH.tok_put] at *; first | assumption | exact AH.none_put (by assumption)))) | (refine AH.le_putM ?_ (by first | assumption | exact (AH.mp_putM_ne _ _ (by assumption)).trans (by assumption) | (simp only [AH.mp_put, AH.mp_setTok] at *; assumption)))))⟩
  have h6 : alQ l k i = true := by rw [h5]; exact fsA_q hq i
  by_cases h7 : k < i
  · have h7c : (k : Int) < (i : Int) := by omega
    have h8 : k < (clsL (alQ l) i).length := by omega
    have e1 : (clsL (alQ l) i).getD k 0 = clA (alQ l) i := by rw [clsL_getD _ h7]; exact clA_eq hq h6
    have e2 : ctA (alQ l) (i + 1) = ctA (alQ l) i := by simp only [ctA]; rw [if_neg (by omega)]
    simp only [hqk, h6, h7c, hk0, i64s_drop h8, F_ref_Classes, g_ref_Classes, go_sem, reduceIte, Nat.reduceEqDiff, Nat.reduceAdd, Nat.reduceMul, Nat.reduceSub, reduceCtorEq, Nat.reduceLeDiff, Nat.reduceLT, Int.reduceLT, Int.reduceLE, Int.reduceToNat, Int.reduceAdd, Int.reduceSub, Int.reduceNeg, Int.reduceMul, Int.reduceEq, ← Bool.decide_and, ← Bool.decide_or, ↓tq_n, ↓tq_e, ↓tq_r, ↓bq_n, ↓bq_e, ↓bq_r, ↓rq_n, ↓rq_r, ↓rq_e]
    refine ⟨by omega, by rw [i64s_len], by omega, by omega, by rw [inR64]; omega, i + 1, by omega, by omega, ?_⟩
    rw [hsucc, e2, e1, i64s_snoc1, List.length_append, List.length_singleton]
    exact (GStep.forget (by repeat' first | exact EnvLe.nil _ | refine EnvLe.cons (AV.le.of_eq rfl) ?_ | refine EnvLe.cons (AV.le.undef _) ?_ | refine EnvLe.cons AV.le.unk ?_) (by repeat' first | exact AH.le.refl _ | assumption | (refine AH.le_put ?_ (by first | assumption | exact (AH.blk_put_ne _ _ (by assumption)).trans (by assumption) | exact AH.none_put (by assumption) | exact AH.none_put (AH.none_put (by assumption)) | (simp only [AH.blk_setTok, AH.tok_put] at *; first | assumption | exact AH.none_put (by assumption)))) | (refine AH.le_setTok ?_ (by first | assumption | exact (AH.blk_put_ne _ _ (by assumption)).trans (by assumption) | exact AH.none_put (by assumption) | exact AH.none_put (AH.none_put (by assumption)) | (simp only [AH.blk_setTok, AH.tok_put] at *; first | assumption | exact AH.none_put (by assumption)))) | (refine AH.le_putM ?_ (by first | assumption | exact (AH.mp_putM_ne _ _ (by assumption)).trans (by assumption) | (simp only [AH.mp_put, AH.mp_setTok] at *; assumption)))))
  · have h7c : ¬ (k : Int) < (i : Int) := by omega
    have e0 : fsA (alQ l) i = i := by omega
    have e1 : clA (alQ l) i = (ctA (alQ l) i : Int) := by unfold clA; rw [e0]
    have e2 : ctA (alQ l) (i + 1) = ctA (alQ l) i + 1 := by simp only [ctA]; rw [if_pos e0]
    simp only [hqk, h6, h7c, F_ref_Classes, g_ref_Classes, go_sem, reduceIte, Nat.reduceEqDiff, Nat.reduceAdd, Nat.reduceMul, Nat.reduceSub, reduceCtorEq, Nat.reduceLeDiff, Nat.reduceLT, Int.reduceLT, Int.reduceLE, Int.reduceToNat, Int.reduceAdd, Int.reduceSub, Int.reduceNeg, Int.reduceMul, Int.reduceEq, ← Bool.decide_and, ← Bool.decide_or, ↓tq_n, ↓tq_e, ↓tq_r, ↓bq_n, ↓bq_e, ↓bq_r, ↓rq_n, ↓rq_r, ↓rq_e]
    refine ⟨by rw [i64s_len], by omega, by omega, by rw [inR64]; omega, by rw [inR64]; omega, i + 1, by omega, by omega, ?_⟩
    rw [hsucc, e2, e1, i64s_snoc1, List.length_append, List.length_singleton]
    exact (GStep.forget (by repeat' first | exact EnvLe.nil _ | refine EnvLe.cons (AV.le.of_eq rfl) ?_ | refine EnvLe.cons (AV.le.undef _) ?_ | refine EnvLe.cons AV.le.unk ?_) (by repeat' first | exact AH.le.refl _ | assumption | (refine AH.le_put ?_ (by first | assumption | exact (AH.blk_put_ne _ _ (by assumption)).trans (by assumption) | exact AH.none_put (by assumption) | exact AH.none_put (AH.none_put (by assumption)) | (simp only [AH.blk_setTok, AH.tok_put] at *; first | assumption | exact AH.none_put (by assumption)))) | (refine AH.le_setTok ?_ (by first | assumption | exact (AH.blk_put_ne _ _ (by assumption)).trans (by assumption) | exact AH.none_put (by assumption) | exact AH.none_put (AH.none_put (by assumption)) | (simp only [AH.blk_setTok, AH.tok_put] at *; first | assumption | exact AH.none_put (by assumption)))) | (refine AH.le_putM ?_ (by first | assumption | exact (AH.mp_putM_ne _ _ (by assumption)).trans (by assumption) | (simp only [AH.mp_put, AH.mp_setTok] at *; assumption)))))
theorem blV_tup (l : List Spm) (c : List (Int × Int)) : ∃ A : List (Int × Int), ∃ nl tl, blV l c = .tup [.sl nl A.length (prs A) tl, I (gaE l c)] := by
  by_cases h : gaE l c = 0
  · exact ⟨arcL (pcs l c), decide ((arcL (pcs l c)).length = 0), .unk, by unfold blV; rw [if_pos h, h]; rfl⟩
  · exact ⟨[], true, .full, by unfold blV; rw [if_neg h]; rfl⟩
theorem ca_tup (l : List Spm) : ∃ A : List Int, ∃ nl tl n2 t2, caV l = .tup [.sl nl A.length (i64s A) tl, I (ckE l)] ∧ rcV l = .tup [.sl n2 A.length (i64s A) t2, I (ckE l)] := by
  by_cases h : ckE l = 0
  · refine ⟨clsL (alQ l) l.length, false, .unk, decide (l.length = 0), .unk, ?_, ?_⟩
    · unfold caV; rw [if_pos h, h, clsL_len]
    · unfold rcV; rw [if_pos h, h, clsL_len]
  · exact ⟨[], true, .full, true, .full, by unfold caV; rw [if_neg h]; rfl, by unfold rcV; rw [if_neg h]; rfl⟩
set_option maxHeartbeats 2000000 in
theorem r_law_PrecedenceBuilds (n1 : Bool) (l : List Spm) (u1 : Tail) (n2 : Bool) (c : List (Int × Int)) (u2 : Tail) (h : AH) : RCall Try.prog n_law_PrecedenceBuilds [.sl n1 l.length (sms l) u1, .sl n2 c.length (prs c) u2] h (.bool true) := by
  refine RCall.of hm cF_law_PrecedenceBuilds (by simp [g_law_PrecedenceBuilds]) fun hw h' hl => ?_
  simp only [F_law_PrecedenceBuilds, g_law_PrecedenceBuilds, go_sem, reduceIte, Nat.reduceEqDiff, Nat.reduceAdd, Nat.reduceMul, Nat.reduceSub, reduceCtorEq, Nat.reduceLeDiff, Nat.reduceLT, Int.reduceLT, Int.reduceLE, Int.reduceToNat, Int.reduceAdd, Int.reduceSub, Int.reduceNeg, Int.reduceMul, Int.reduceEq, ← Bool.decide_and, ← Bool.decide_or, ↓tq_n, ↓tq_e, ↓tq_r, ↓bq_n, ↓bq_e, ↓bq_r, ↓rq_n, ↓rq_r, ↓rq_e]
  refine CallG.mk (r_law_awake _) ?_
  simp only [F_law_PrecedenceBuilds, g_law_PrecedenceBuilds, go_sem, reduceIte, Nat.reduceEqDiff, Nat.reduceAdd, Nat.reduceMul, Nat.reduceSub, reduceCtorEq, Nat.reduceLeDiff, Nat.reduceLT, Int.reduceLT, Int.reduceLE, Int.reduceToNat, Int.reduceAdd, Int.reduceSub, Int.reduceNeg, Int.reduceMul, Int.reduceEq, ← Bool.decide_and, ← Bool.decide_or, ↓tq_n, ↓tq_e, ↓tq_r, ↓bq_n, ↓bq_e, ↓bq_r, ↓rq_n, ↓rq_r, ↓rq_e]
  refine CallG.mk (r_law_few n1 l u1 n2 c u2 _) ?_
  cases hf : fwC l c with
  | false =>
    simp only [F_law_PrecedenceBuilds, g_law_PrecedenceBuilds, go_sem, reduceIte, Nat.reduceEqDiff, Nat.reduceAdd, Nat.reduceMul, Nat.reduceSub, reduceCtorEq, Nat.reduceLeDiff, Nat.reduceLT, Int.reduceLT, Int.reduceLE, Int.reduceToNat, Int.reduceAdd, Int.reduceSub, Int.reduceNeg, Int.reduceMul, Int.reduceEq, ← Bool.decide_and, ← Bool.decide_or, ↓tq_n, ↓tq_e, ↓tq_r, ↓bq_n, ↓bq_e, ↓bq_r, ↓rq_n, ↓rq_r, ↓rq_e]
    refine CallG.mk (r_law_awake _) ?_
    simp only [F_law_PrecedenceBuilds, g_law_PrecedenceBuilds, go_sem, reduceIte, Nat.reduceEqDiff, Nat.reduceAdd, Nat.reduceMul, Nat.reduceSub, reduceCtorEq, Nat.reduceLeDiff, Nat.reduceLT, Int.reduceLT, Int.reduceLE, Int.reduceToNat, Int.reduceAdd, Int.reduceSub, Int.reduceNeg, Int.reduceMul, Int.reduceEq, ← Bool.decide_and, ← Bool.decide_or, ↓tq_n, ↓tq_e, ↓tq_r, ↓bq_n, ↓bq_e, ↓bq_r, ↓rq_n, ↓rq_r, ↓rq_e]
    exact ret_ok rfl
  | true =>
    have hb := few_bd hf
    simp only [F_law_PrecedenceBuilds, g_law_PrecedenceBuilds, go_sem, reduceIte, Nat.reduceEqDiff, Nat.reduceAdd, Nat.reduceMul, Nat.reduceSub, reduceCtorEq, Nat.reduceLeDiff, Nat.reduceLT, Int.reduceLT, Int.reduceLE, Int.reduceToNat, Int.reduceAdd, Int.reduceSub, Int.reduceNeg, Int.reduceMul, Int.reduceEq, ← Bool.decide_and, ← Bool.decide_or, ↓tq_n, ↓tq_e, ↓tq_r, ↓bq_n, ↓bq_e, ↓bq_r, ↓rq_n, ↓rq_r, ↓rq_e]
    refine ⟨sms_len l, by omega, by omega, TokG.mk fun t1 ht1 => ?_⟩
    simp only [F_law_PrecedenceBuilds, g_law_PrecedenceBuilds, go_sem, reduceIte, Nat.reduceEqDiff, Nat.reduceAdd, Nat.reduceMul, Nat.reduceSub, reduceCtorEq, Nat.reduceLeDiff, Nat.reduceLT, Int.reduceLT, Int.reduceLE, Int.reduceToNat, Int.reduceAdd, Int.reduceSub, Int.reduceNeg, Int.reduceMul, Int.reduceEq, ← Bool.decide_and, ← Bool.decide_or, ↓tq_n, ↓tq_e, ↓tq_r, ↓bq_n, ↓bq_e, ↓bq_r, ↓rq_n, ↓rq_r, ↓rq_e]
    refine ⟨prs_len c, by omega, by omega, TokG.mk fun t2 ht2 => ?_⟩
    have ht3 : h'.tok t2 = none := by
      simp only [AH.setTok] at ht2
      split at ht2
      · cases ht2
      · exact ht2
    obtain ⟨A, nl, tl, e1⟩ := blV_tup l c
    obtain ⟨B, m1, v1, m2, v2, e2, e3⟩ := ca_tup l
    have r1 := r_precedence_Build (false && decide (l.length = 0)) l (.tok t1) (false && decide (c.length = 0)) c (.tok t2)
    have r2 := r_precedence_Consistent (false && decide (l.length = 0)) l (.tok t1) (false && decide (c.length = 0)) c (.tok t2)
    have r3 := r_precedence_Classes (false && decide (l.length = 0)) l (.tok t1)
    have r4 := r_ref_Build n1 l u1 n2 c u2
    have r5 := r_ref_Consistent n1 l u1 n2 c u2
    have r6 := r_ref_Classes n1 l u1
    rw [e1] at r1 r4
    rw [e2] at r3
    rw [e3] at r6
    unfold csV at r2 r5
    simp only [Bool.false_and] at r1 r2 r3
    simp only [F_law_PrecedenceBuilds, g_law_PrecedenceBuilds, go_sem, reduceIte, Nat.reduceEqDiff, Nat.reduceAdd, Nat.reduceMul, Nat.reduceSub, reduceCtorEq, Nat.reduceLeDiff, Nat.reduceLT, Int.reduceLT, Int.reduceLE, Int.reduceToNat, Int.reduceAdd, Int.reduceSub, Int.reduceNeg, Int.reduceMul, Int.reduceEq, ← Bool.decide_and, ← Bool.decide_or, ↓tq_n, ↓tq_e, ↓tq_r, ↓bq_n, ↓bq_e, ↓bq_r, ↓rq_n, ↓rq_r, ↓rq_e]
    refine CallG.mk (r1 _) ?_
    simp only [F_law_PrecedenceBuilds, g_law_PrecedenceBuilds, go_sem, reduceIte, Nat.reduceEqDiff, Nat.reduceAdd, Nat.reduceMul, Nat.reduceSub, reduceCtorEq, Nat.reduceLeDiff, Nat.reduceLT, Int.reduceLT, Int.reduceLE, Int.reduceToNat, Int.reduceAdd, Int.reduceSub, Int.reduceNeg, Int.reduceMul, Int.reduceEq, ← Bool.decide_and, ← Bool.decide_or, ↓tq_n, ↓tq_e, ↓tq_r, ↓bq_n, ↓bq_e, ↓bq_r, ↓rq_n, ↓rq_r, ↓rq_e]
    refine CallG.mk (r2 _) ?_
    simp only [F_law_PrecedenceBuilds, g_law_PrecedenceBuilds, go_sem, reduceIte, Nat.reduceEqDiff, Nat.reduceAdd, Nat.reduceMul, Nat.reduceSub, reduceCtorEq, Nat.reduceLeDiff, Nat.reduceLT, Int.reduceLT, Int.reduceLE, Int.reduceToNat, Int.reduceAdd, Int.reduceSub, Int.reduceNeg, Int.reduceMul, Int.reduceEq, ← Bool.decide_and, ← Bool.decide_or, ↓tq_n, ↓tq_e, ↓tq_r, ↓bq_n, ↓bq_e, ↓bq_r, ↓rq_n, ↓rq_r, ↓rq_e]
    refine CallG.mk (r3 _) ?_
    simp only [F_law_PrecedenceBuilds, g_law_PrecedenceBuilds, go_sem, reduceIte, Nat.reduceEqDiff, Nat.reduceAdd, Nat.reduceMul, Nat.reduceSub, reduceCtorEq, Nat.reduceLeDiff, Nat.reduceLT, Int.reduceLT, Int.reduceLE, Int.reduceToNat, Int.reduceAdd, Int.reduceSub, Int.reduceNeg, Int.reduceMul, Int.reduceEq, ← Bool.decide_and, ← Bool.decide_or, ↓tq_n, ↓tq_e, ↓tq_r, ↓bq_n, ↓bq_e, ↓bq_r, ↓rq_n, ↓rq_r, ↓rq_e]
    refine CallG.mk (r4 _) ?_
    simp only [F_law_PrecedenceBuilds, g_law_PrecedenceBuilds, go_sem, reduceIte, Nat.reduceEqDiff, Nat.reduceAdd, Nat.reduceMul, Nat.reduceSub, reduceCtorEq, Nat.reduceLeDiff, Nat.reduceLT, Int.reduceLT, Int.reduceLE, Int.reduceToNat, Int.reduceAdd, Int.reduceSub, Int.reduceNeg, Int.reduceMul, Int.reduceEq, ← Bool.decide_and, ← Bool.decide_or, ↓tq_n, ↓tq_e, ↓tq_r, ↓bq_n, ↓bq_e, ↓bq_r, ↓rq_n, ↓rq_r, ↓rq_e]
    refine CallG.mk (r5 _) ?_
    simp only [F_law_PrecedenceBuilds, g_law_PrecedenceBuilds, go_sem, reduceIte, Nat.reduceEqDiff, Nat.reduceAdd, Nat.reduceMul, Nat.reduceSub, reduceCtorEq, Nat.reduceLeDiff, Nat.reduceLT, Int.reduceLT, Int.reduceLE, Int.reduceToNat, Int.reduceAdd, Int.reduceSub, Int.reduceNeg, Int.reduceMul, Int.reduceEq, ← Bool.decide_and, ← Bool.decide_or, ↓tq_n, ↓tq_e, ↓tq_r, ↓bq_n, ↓bq_e, ↓bq_r, ↓rq_n, ↓rq_r, ↓rq_e]
    refine CallG.mk (r6 _) ?_
    simp only [F_law_PrecedenceBuilds, g_law_PrecedenceBuilds, go_sem, reduceIte, Nat.reduceEqDiff, Nat.reduceAdd, Nat.reduceMul, Nat.reduceSub, reduceCtorEq, Nat.reduceLeDiff, Nat.reduceLT, Int.reduceLT, Int.reduceLE, Int.reduceToNat, Int.reduceAdd, Int.reduceSub, Int.reduceNeg, Int.reduceMul, Int.reduceEq, ← Bool.decide_and, ← Bool.decide_or, ↓tq_n, ↓tq_e, ↓tq_r, ↓bq_n, ↓bq_e, ↓bq_r, ↓rq_n, ↓rq_r, ↓rq_e]
    refine CallG.mk (r_base_Arcs nl A tl nl A tl _) ?_
    rw [decide_eq_true rfl]
    simp only [F_law_PrecedenceBuilds, g_law_PrecedenceBuilds, go_sem, reduceIte, Nat.reduceEqDiff, Nat.reduceAdd, Nat.reduceMul, Nat.reduceSub, reduceCtorEq, Nat.reduceLeDiff, Nat.reduceLT, Int.reduceLT, Int.reduceLE, Int.reduceToNat, Int.reduceAdd, Int.reduceSub, Int.reduceNeg, Int.reduceMul, Int.reduceEq, ← Bool.decide_and, ← Bool.decide_or, ↓tq_n, ↓tq_e, ↓tq_r, ↓bq_n, ↓bq_e, ↓bq_r, ↓rq_n, ↓rq_r, ↓rq_e]
    refine CallG.mk (r_base_Ints m1 m2 B B v1 v2 _) ?_
    rw [decide_eq_true rfl]
    simp only [F_law_PrecedenceBuilds, g_law_PrecedenceBuilds, go_sem, reduceIte, Nat.reduceEqDiff, Nat.reduceAdd, Nat.reduceMul, Nat.reduceSub, reduceCtorEq, Nat.reduceLeDiff, Nat.reduceLT, Int.reduceLT, Int.reduceLE, Int.reduceToNat, Int.reduceAdd, Int.reduceSub, Int.reduceNeg, Int.reduceMul, Int.reduceEq, ← Bool.decide_and, ← Bool.decide_or, ↓tq_n, ↓tq_e, ↓tq_r, ↓bq_n, ↓bq_e, ↓bq_r, ↓rq_n, ↓rq_r, ↓rq_e]
    refine CallG.mk (r_base_Specimens false l (.tok t1) n1 l u1 _) ?_
    rw [decide_eq_true rfl]
    simp only [F_law_PrecedenceBuilds, g_law_PrecedenceBuilds, go_sem, reduceIte, Nat.reduceEqDiff, Nat.reduceAdd, Nat.reduceMul, Nat.reduceSub, reduceCtorEq, Nat.reduceLeDiff, Nat.reduceLT, Int.reduceLT, Int.reduceLE, Int.reduceToNat, Int.reduceAdd, Int.reduceSub, Int.reduceNeg, Int.reduceMul, Int.reduceEq, ← Bool.decide_and, ← Bool.decide_or, ↓tq_n, ↓tq_e, ↓tq_r, ↓bq_n, ↓bq_e, ↓bq_r, ↓rq_n, ↓rq_r, ↓rq_e]
    refine CallG.mk (r_base_Pairs false c (.tok t2) n2 c u2 _) ?_
    rw [decide_eq_true rfl]
    simp only [F_law_PrecedenceBuilds, g_law_PrecedenceBuilds, go_sem, reduceIte, Nat.reduceEqDiff, Nat.reduceAdd, Nat.reduceMul, Nat.reduceSub, reduceCtorEq, Nat.reduceLeDiff, Nat.reduceLT, Int.reduceLT, Int.reduceLE, Int.reduceToNat, Int.reduceAdd, Int.reduceSub, Int.reduceNeg, Int.reduceMul, Int.reduceEq, ← Bool.decide_and, ← Bool.decide_or, ↓tq_n, ↓tq_e, ↓tq_r, ↓bq_n, ↓bq_e, ↓bq_r, ↓rq_n, ↓rq_r, ↓rq_e]
    exact ret_le (by repeat' first | exact AH.le.refl _ | assumption | (refine AH.le_put ?_ (by first | assumption | exact (AH.blk_put_ne _ _ (by assumption)).trans (by assumption) | exact AH.none_put (by assumption) | exact AH.none_put (AH.none_put (by assumption)) | (simp only [AH.blk_setTok, AH.tok_put] at *; first | assumption | exact AH.none_put (by assumption)))) | (refine AH.le_setTok ?_ (by first | assumption | exact (AH.blk_put_ne _ _ (by assumption)).trans (by assumption) | exact AH.none_put (by assumption) | exact AH.none_put (AH.none_put (by assumption)) | (simp only [AH.blk_setTok, AH.tok_put] at *; first | assumption | exact AH.none_put (by assumption)))) | (refine AH.le_putM ?_ (by first | assumption | exact (AH.mp_putM_ne _ _ (by assumption)).trans (by assumption) | (simp only [AH.mp_put, AH.mp_setTok] at *; assumption)))) (AV.le.refl _)
end Go.Proofs.Ytndcbompcnlhmaa
