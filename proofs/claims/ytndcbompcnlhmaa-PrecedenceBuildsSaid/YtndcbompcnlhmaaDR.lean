/- Calls of functions of this seat's program: the reference's table of what reaches what. No condition. -/
import Derived.Test.YtndcbompcnlhmaaP3
import Derived.Test.YtndcbompcnlhmaaD15
import Derived.Test.YtndcbompcnlhmaaD12
namespace Go.Proofs.Ytndcbompcnlhmaa
open Go Go.Abs
set_option linter.unusedSimpArgs false
set_option linter.unusedVariables false
set_option maxRecDepth 20000

def bls (l : List Bool) : List AV := l.map AV.bool
theorem bls_len (l : List Bool) : (bls l).length = l.length := by simp [bls]
theorem bls_drop {l : List Bool} {i : Nat} (h : i < l.length) : (bls l).drop i = .bool (l.getD i false) :: (bls l).drop (i + 1) := by
  have : (bls l).drop i = bls (l.drop i) := by simp [bls, List.map_drop]
  rw [this, getD_drop l false h]
  simp [bls, List.map_drop]
theorem bls_set (l : List Bool) (i : Nat) (v : Bool) : (bls l).set i (.bool v) = bls (l.set i v) := by simp [bls, List.map_set]
theorem bls_one (l : List Bool) : allOne (bls l) = true := by
  induction l with
  | nil => rfl
  | cons x l ih =>
    have e : bls (x :: l) = .bool x :: bls l := rfl
    rw [e]; simp [allOne, AV.one, ih]
/-- A cell of the table. -/
def tg (tb : List Bool) (u v : Nat) : Bool := tb.getD (u * 24 + v) false
theorem tg_set {tb : List Bool} (hl : tb.length = 576) {i j : Nat} (hi : i < 24) (hj : j < 24) {u v : Nat} (hu : u < 24) (hv : v < 24) : tg (tb.set (i * 24 + j) true) u v = if u = i ∧ v = j then true else tg tb u v := by
  unfold tg
  simp only [List.getD, List.getElem?_set]
  by_cases h : u = i ∧ v = j
  · obtain ⟨rfl, rfl⟩ := h
    rw [if_pos rfl, if_pos (by omega)]; simp
  · rw [if_neg (by omega), if_neg h]
/-- Arcs as a relation. -/
def EA (a : List (Int × Int)) (i j : Nat) : Prop := ((i : Int), (j : Int)) ∈ a
theorem pm_lt {n : Nat} {a : List (Int × Int)} (hE : ∀ i j, EA a i j → i < n ∧ j < n) {m i j : Nat} (h : PM (EA a) m i j) : i < n ∧ j < n := by
  have hw := h.way
  obtain ⟨u, hu⟩ := hw.first
  obtain ⟨v, hv, _⟩ := hw.last
  exact ⟨(hE _ _ hu).1, (hE _ _ hv).2⟩
structure TI (n : Nat) (a : List (Int × Int)) (m i j : Nat) (tb : List Bool) : Prop where
  len : tb.length = 576
  lo : ∀ u v, u < 24 → v < 24 → PM (EA a) m u v → tg tb u v = true
  hi : ∀ u v, u < 24 → v < 24 → tg tb u v = true → PM (EA a) (m + 1) u v
  dn : ∀ u v, u < 24 → v < 24 → (u < i ∨ u = i ∧ v < j) → PM (EA a) (m + 1) u v → tg tb u v = true
theorem ti_step {n : Nat} {a : List (Int × Int)} (hn : n ≤ 24) {m i j : Nat} (hm : m < n) (hi : i < n) (hj : j < n) {tb : List Bool} (h : TI n a m i j tb) : TI n a m i (j + 1) (if (tg tb i m && tg tb m j) = true then tb.set (i * 24 + j) true else tb) := by
  have hL := h.len
  by_cases c : (tg tb i m && tg tb m j) = true
  · rw [if_pos c]
    obtain ⟨c1, c2⟩ := Bool.and_eq_true_iff.1 c
    have hp : PM (EA a) (m + 1) i j := PM.trans (Nat.lt_succ_self m) (h.hi i m (by omega) (by omega) c1) (h.hi m j (by omega) (by omega) c2)
    refine ⟨by simpa using hL, fun u v hu hv k => ?_, fun u v hu hv k => ?_, fun u v hu hv hd k => ?_⟩
    · rw [tg_set hL (by omega) (by omega) hu hv]; split
      · rfl
      · exact h.lo u v hu hv k
    · rw [tg_set hL (by omega) (by omega) hu hv] at k; split at k
      · rename_i e; rw [e.1, e.2]; exact hp
      · exact h.hi u v hu hv k
    · rw [tg_set hL (by omega) (by omega) hu hv]; split
      · rfl
      · rename_i e
        exact h.dn u v hu hv (by omega) k
  · rw [if_neg c]
    refine ⟨hL, h.lo, h.hi, fun u v hu hv hd k => ?_⟩
    by_cases e : u = i ∧ v = j
    · obtain ⟨rfl, rfl⟩ := e
      rcases k with k | ⟨k1, k2⟩
      · exact h.lo u v hu hv k
      · exact absurd (by rw [h.lo u m hu (by omega) k1, h.lo m v (by omega) hv k2]; rfl) c
    · exact h.dn u v hu hv (by omega) k
theorem ti_row {n : Nat} {a : List (Int × Int)} (hE : ∀ i j, EA a i j → i < n ∧ j < n) {m i : Nat} {tb : List Bool} (h : TI n a m i n tb) : TI n a m (i + 1) 0 tb :=
  ⟨h.len, h.lo, h.hi, fun u v hu hv hd k => h.dn u v hu hv (by have := pm_lt hE k; omega) k⟩
theorem ti_next {n : Nat} {a : List (Int × Int)} (hE : ∀ i j, EA a i j → i < n ∧ j < n) {m : Nat} {tb : List Bool} (h : TI n a m n 0 tb) : TI n a (m + 1) 0 0 tb :=
  ⟨h.len, fun u v hu hv k => h.dn u v hu hv (.inl (pm_lt hE k).1) k, fun u v hu hv k => .inl (h.hi u v hu hv k), fun u v hu hv hd k => by omega⟩
/-- The table. -/
noncomputable def tabF (n : Nat) (a : List (Int × Int)) : List Bool := by
  classical exact (List.range 576).map fun q => decide (PM (EA a) n (q / 24) (q % 24))
theorem tabF_len (n : Nat) (a : List (Int × Int)) : (tabF n a).length = 576 := by simp [tabF]
theorem tabF_at {n : Nat} {a : List (Int × Int)} {u v : Nat} (hu : u < 24) (hv : v < 24) : tg (tabF n a) u v = true ↔ PM (EA a) n u v := by
  unfold tg tabF
  have h1 : u * 24 + v < 576 := by omega
  have h2 : (u * 24 + v) / 24 = u := by omega
  have h3 : (u * 24 + v) % 24 = v := by omega
  simp [List.getD, h1, h2, h3]
theorem tab_ext {n : Nat} {a : List (Int × Int)} {tb : List Bool} (hl : tb.length = 576) (h : ∀ u v, u < 24 → v < 24 → (tg tb u v = true ↔ PM (EA a) n u v)) : tb = tabF n a := by
  refine getD_gext false (by rw [hl, tabF_len]) fun q h1 => ?_
  have hq : q < 576 := by omega
  have hu : q / 24 < 24 := by omega
  have hv : q % 24 < 24 := by omega
  have e : q / 24 * 24 + q % 24 = q := by omega
  have k := (h (q / 24) (q % 24) hu hv).trans (tabF_at hu hv).symm
  unfold tg at k
  rw [e] at k
  rw [Bool.eq_iff_iff]
  exact k
/-- The empty table. -/
def z576 : List Bool := List.replicate 576 false
theorem z576_len : z576.length = 576 := List.length_replicate
theorem z576_tg (u v : Nat) : tg z576 u v = false := by
  unfold tg z576
  rw [List.getD_eq_getElem?_getD, List.getElem?_replicate]
  split <;> rfl
theorem AllocG.mk2 {h : AH} {z z' : List AV} {K : AV → AH → Prop} (e : z = z') (hk : ∀ b, h.blk b = none → K (.ptr b 0) (h.put b z')) : AllocG h z (c := ⟨K⟩) := by subst e; exact hk
set_option maxHeartbeats 8000000 in
theorem r_ref_Table (n : Nat) (hn : n ≤ 24) (nl : Bool) (a : List (Int × Int)) (tl : Tail) (ha : ∀ i, i < a.length → Arc n (a.getD i (0, 0))) (h : AH) : RCall Try.prog n_ref_Table [I n, .sl nl a.length (prs a) tl] h (.st (bls (tabF n a))) := by
  refine RCall.of hm cF_ref_Table (by simp [g_ref_Table]) fun hw h' hl => ?_
  have hx := wf_len (hw _ (.tail _ (.head _)))
  simp only [F_ref_Table, g_ref_Table, go_sem, reduceIte, Nat.reduceEqDiff, Nat.reduceAdd, Nat.reduceMul, Nat.reduceSub, reduceCtorEq, Nat.reduceLeDiff, Nat.reduceLT, Int.reduceLT, Int.reduceLE, Int.reduceToNat, Int.reduceAdd, Int.reduceSub, Int.reduceNeg, Int.reduceMul, Int.reduceEq, ← Bool.decide_and, ← Bool.decide_or, ↓tq_n, ↓tq_e, ↓tq_r, ↓bq_n, ↓bq_e, ↓bq_r, ↓rq_n, ↓rq_r, ↓rq_e]
  refine AllocG.mk2 (z' := bls z576) rfl fun b4 hb4 => ?_
  simp only [F_ref_Table, g_ref_Table, go_sem, reduceIte, Nat.reduceEqDiff, Nat.reduceAdd, Nat.reduceMul, Nat.reduceSub, reduceCtorEq, Nat.reduceLeDiff, Nat.reduceLT, Int.reduceLT, Int.reduceLE, Int.reduceToNat, Int.reduceAdd, Int.reduceSub, Int.reduceNeg, Int.reduceMul, Int.reduceEq, ← Bool.decide_and, ← Bool.decide_or, ↓tq_n, ↓tq_e, ↓tq_r, ↓bq_n, ↓bq_e, ↓bq_r, ↓rq_n, ↓rq_r, ↓rq_e]
  refine AllocG.mk2 (z' := bls z576) rfl fun b5 hb5 => ?_
  have hne : b5 ≠ b4 := AH.ne_of_put hb5
  have hb5' : h'.blk b5 = none := AH.none_put hb5
  have hE : ∀ i j, EA a i j → i < n ∧ j < n := fun i j he => by
    obtain ⟨q, hq, e⟩ := (mem_nat (d := (0, 0))).1 he
    have := ha q hq
    rw [e] at this
    obtain ⟨t1, t2, t3, t4⟩ := this
    simp only at t1 t2 t3 t4
    omega
  obtain ⟨B, hB⟩ : ∃ B : AH, B = h'.put b4 (bls z576) := ⟨_, rfl⟩
  have hbB : B.blk b4 = some (bls z576) := by rw [hB, AH.blk_put]
  have hleB : h'.le B := by rw [hB]; exact AH.le_put (AH.le.refl _) hb4
  rw [← hB] at hb5 ⊢
  simp only [F_ref_Table, g_ref_Table, go_sem, reduceIte, Nat.reduceEqDiff, Nat.reduceAdd, Nat.reduceMul, Nat.reduceSub, reduceCtorEq, Nat.reduceLeDiff, Nat.reduceLT, Int.reduceLT, Int.reduceLE, Int.reduceToNat, Int.reduceAdd, Int.reduceSub, Int.reduceNeg, Int.reduceMul, Int.reduceEq, ← Bool.decide_and, ← Bool.decide_or, ↓tq_n, ↓tq_e, ↓tq_r, ↓bq_n, ↓bq_e, ↓bq_r, ↓rq_n, ↓rq_r, ↓rq_e]
  refine awp_loop (α := Nat × List Bool) (fun p => [(0, I n), (1, .sl nl a.length (prs a) tl), (4, .ptr b4 0), (5, .ptr b5 0), (6, I p.1)]) (fun p => B.put b5 (bls p.2)) (fun p => p.1 ≤ a.length ∧ p.2.length = 576 ∧ ∀ u v, u < 24 → v < 24 → (tg p.2 u v = true ↔ ((u : Int), (v : Int)) ∈ a.take p.1)) (fun p => a.length - p.1) (0, z576) ⟨Nat.zero_le _, z576_len, fun u v _ _ => by rw [z576_tg]; simp⟩ (GStep.forget (by repeat' first | exact EnvLe.nil _ | refine EnvLe.cons (AV.le.of_eq rfl) ?_ | refine EnvLe.cons (AV.le.undef _) ?_ | refine EnvLe.cons AV.le.unk ?_) (by repeat' first | exact AH.le.refl _ | assumption | (refine AH.le_put ?_ (by first | assumption | exact (AH.blk_put_ne _ _ (by assumption)).trans (by assumption) | exact AH.none_put (by assumption) | exact AH.none_put (AH.none_put (by assumption)) | (simp only [AH.blk_setTok, AH.tok_put] at *; first | assumption | exact AH.none_put (by assumption)))) | (refine AH.le_setTok ?_ (by first | assumption | exact (AH.blk_put_ne _ _ (by assumption)).trans (by assumption) | exact AH.none_put (by assumption) | exact AH.none_put (AH.none_put (by assumption)) | (simp only [AH.blk_setTok, AH.tok_put] at *; first | assumption | exact AH.none_put (by assumption)))) | (refine AH.le_putM ?_ (by first | assumption | exact (AH.mp_putM_ne _ _ (by assumption)).trans (by assumption) | (simp only [AH.mp_put, AH.mp_setTok] at *; assumption))))) fun p hp => .of_vg hm ?_
  obtain ⟨i, tb⟩ := p
  obtain ⟨p1, p2, p3⟩ := hp
  simp only at p1 p2 p3 ⊢
  by_cases h3 : i < a.length
  · have hc3 : (i : Int) < (a.length : Int) := by omega
    obtain ⟨t1, t2, t3, t4⟩ := ha i h3
    obtain ⟨p, hp⟩ : ∃ p : Nat, (a.getD i (0, 0)).1 = p := ⟨(a.getD i (0, 0)).1.toNat, by omega⟩
    obtain ⟨r, hr⟩ : ∃ r : Nat, (a.getD i (0, 0)).2 = r := ⟨(a.getD i (0, 0)).2.toNat, by omega⟩
    have hpl : p < 24 := by omega
    have hrl : r < 24 := by omega
    have q1 : (p : Int) < 24 := by omega
    have q2 : (r : Int) < 24 := by omega
    have q1' : (p : Int) < ((24 : Nat) : Int) := by omega
    have q2' : (r : Int) < ((24 : Nat) : Int) := by omega
    have q3 : (0 : Int) ≤ (p : Int) := by omega
    have q4 : (0 : Int) ≤ (r : Int) := by omega
    have hcl : p * 24 + r + 1 ≤ (bls tb).length := by rw [bls_len, p2]; omega
    have hnext : ∀ u v, u < 24 → v < 24 → (tg (tb.set (p * 24 + r) true) u v = true ↔ ((u : Int), (v : Int)) ∈ a.take (i + 1)) := fun u v hu hv => by
      rw [tg_set p2 hpl hrl hu hv, take_getD (0, 0) h3, List.mem_append, List.mem_singleton, ← p3 u v hu hv]
      constructor
      · intro k
        split at k
        · rename_i e; exact .inr (Prod.ext (by rw [hp, e.1]) (by rw [hr, e.2]))
        · exact .inl k
      · rintro (k | k)
        · split
          · rfl
          · exact k
        · have k1 := congrArg Prod.fst k
          have k2 := congrArg Prod.snd k
          simp only at k1 k2
          rw [if_pos (by omega)]
    simp only [hc3, prs_drop h3, hp, hr, q1, q2, q1', q2', q3, q4, Nat.zero_add, Nat.mul_one, hcl, AH.blk_put, F_ref_Table, g_ref_Table, go_sem, reduceIte, Nat.reduceEqDiff, Nat.reduceAdd, Nat.reduceMul, Nat.reduceSub, reduceCtorEq, Nat.reduceLeDiff, Nat.reduceLT, Int.reduceLT, Int.reduceLE, Int.reduceToNat, Int.reduceAdd, Int.reduceSub, Int.reduceNeg, Int.reduceMul, Int.reduceEq, ← Bool.decide_and, ← Bool.decide_or, ↓tq_n, ↓tq_e, ↓tq_r, ↓bq_n, ↓bq_e, ↓bq_r, ↓rq_n, ↓rq_r, ↓rq_e]
    refine ⟨by rw [inR64]; omega, (i + 1, tb.set (p * 24 + r) true), ⟨by simp only; omega, by simp only [List.length_set]; exact p2, hnext⟩, by simp only; omega, ?_⟩
    simp only [← bls_set]
    exact (GStep.forget (by repeat' first | exact EnvLe.nil _ | refine EnvLe.cons (AV.le.of_eq rfl) ?_ | refine EnvLe.cons (AV.le.undef _) ?_ | refine EnvLe.cons AV.le.unk ?_) (by repeat' first | exact AH.le.refl _ | assumption | (refine AH.le_put ?_ (by first | assumption | exact (AH.blk_put_ne _ _ (by assumption)).trans (by assumption) | exact AH.none_put (by assumption) | exact AH.none_put (AH.none_put (by assumption)) | (simp only [AH.blk_setTok, AH.tok_put] at *; first | assumption | exact AH.none_put (by assumption)))) | (refine AH.le_setTok ?_ (by first | assumption | exact (AH.blk_put_ne _ _ (by assumption)).trans (by assumption) | exact AH.none_put (by assumption) | exact AH.none_put (AH.none_put (by assumption)) | (simp only [AH.blk_setTok, AH.tok_put] at *; first | assumption | exact AH.none_put (by assumption)))) | (refine AH.le_putM ?_ (by first | assumption | exact (AH.mp_putM_ne _ _ (by assumption)).trans (by assumption) | (simp only [AH.mp_put, AH.mp_setTok] at *; assumption)))))
  have h3 : i = a.length := by omega
  subst h3
  rw [List.take_length] at p3
  have hTI : TI n a 0 0 0 tb := ⟨p2, fun u v hu hv k => (p3 u v hu hv).2 k, fun u v hu hv k => .inl ((p3 u v hu hv).1 k), fun u v hu hv hd k => by omega⟩
  simp only [F_ref_Table, g_ref_Table, go_sem, reduceIte, Nat.reduceEqDiff, Nat.reduceAdd, Nat.reduceMul, Nat.reduceSub, reduceCtorEq, Nat.reduceLeDiff, Nat.reduceLT, Int.reduceLT, Int.reduceLE, Int.reduceToNat, Int.reduceAdd, Int.reduceSub, Int.reduceNeg, Int.reduceMul, Int.reduceEq, ← Bool.decide_and, ← Bool.decide_or, ↓tq_n, ↓tq_e, ↓tq_r, ↓bq_n, ↓bq_e, ↓bq_r, ↓rq_n, ↓rq_r, ↓rq_e]
  refine awp_loop (α := Nat × List Bool) (fun p => [(0, I n), (4, .ptr b4 0), (5, .ptr b5 0), (7, I p.1)]) (fun p => B.put b5 (bls p.2)) (fun p => p.1 ≤ n ∧ TI n a p.1 0 0 p.2) (fun p => n - p.1) (0, tb) ⟨Nat.zero_le _, hTI⟩ (GStep.forget (by repeat' first | exact EnvLe.nil _ | refine EnvLe.cons (AV.le.of_eq rfl) ?_ | refine EnvLe.cons (AV.le.undef _) ?_ | refine EnvLe.cons AV.le.unk ?_) (by repeat' first | exact AH.le.refl _ | assumption | (refine AH.le_put ?_ (by first | assumption | exact (AH.blk_put_ne _ _ (by assumption)).trans (by assumption) | exact AH.none_put (by assumption) | exact AH.none_put (AH.none_put (by assumption)) | (simp only [AH.blk_setTok, AH.tok_put] at *; first | assumption | exact AH.none_put (by assumption)))) | (refine AH.le_setTok ?_ (by first | assumption | exact (AH.blk_put_ne _ _ (by assumption)).trans (by assumption) | exact AH.none_put (by assumption) | exact AH.none_put (AH.none_put (by assumption)) | (simp only [AH.blk_setTok, AH.tok_put] at *; first | assumption | exact AH.none_put (by assumption)))) | (refine AH.le_putM ?_ (by first | assumption | exact (AH.mp_putM_ne _ _ (by assumption)).trans (by assumption) | (simp only [AH.mp_put, AH.mp_setTok] at *; assumption))))) fun p hp => .of_vg hm ?_
  obtain ⟨m, tb⟩ := p
  obtain ⟨m1, m2⟩ := hp
  simp only at m1 m2 ⊢
  by_cases h4 : m < n
  · have hc4 : (m : Int) < (n : Int) := by omega
    simp only [hc4, F_ref_Table, g_ref_Table, go_sem, reduceIte, Nat.reduceEqDiff, Nat.reduceAdd, Nat.reduceMul, Nat.reduceSub, reduceCtorEq, Nat.reduceLeDiff, Nat.reduceLT, Int.reduceLT, Int.reduceLE, Int.reduceToNat, Int.reduceAdd, Int.reduceSub, Int.reduceNeg, Int.reduceMul, Int.reduceEq, ← Bool.decide_and, ← Bool.decide_or, ↓tq_n, ↓tq_e, ↓tq_r, ↓bq_n, ↓bq_e, ↓bq_r, ↓rq_n, ↓rq_r, ↓rq_e]
    refine awp_loop (α := Nat × List Bool) (fun p => [(0, I n), (4, .ptr b4 0), (5, .ptr b5 0), (7, I m), (8, I p.1)]) (fun p => B.put b5 (bls p.2)) (fun p => p.1 ≤ n ∧ TI n a m p.1 0 p.2) (fun p => n - p.1) (0, tb) ⟨Nat.zero_le _, m2⟩ (GStep.forget (by repeat' first | exact EnvLe.nil _ | refine EnvLe.cons (AV.le.of_eq rfl) ?_ | refine EnvLe.cons (AV.le.undef _) ?_ | refine EnvLe.cons AV.le.unk ?_) (by repeat' first | exact AH.le.refl _ | assumption | (refine AH.le_put ?_ (by first | assumption | exact (AH.blk_put_ne _ _ (by assumption)).trans (by assumption) | exact AH.none_put (by assumption) | exact AH.none_put (AH.none_put (by assumption)) | (simp only [AH.blk_setTok, AH.tok_put] at *; first | assumption | exact AH.none_put (by assumption)))) | (refine AH.le_setTok ?_ (by first | assumption | exact (AH.blk_put_ne _ _ (by assumption)).trans (by assumption) | exact AH.none_put (by assumption) | exact AH.none_put (AH.none_put (by assumption)) | (simp only [AH.blk_setTok, AH.tok_put] at *; first | assumption | exact AH.none_put (by assumption)))) | (refine AH.le_putM ?_ (by first | assumption | exact (AH.mp_putM_ne _ _ (by assumption)).trans (by assumption) | (simp only [AH.mp_put, AH.mp_setTok] at *; assumption))))) fun p hp => .of_vg hm ?_
    obtain ⟨i, tb⟩ := p
    obtain ⟨i1, i2⟩ := hp
    simp only at i1 i2 ⊢
    by_cases h5 : i < n
    · have hc5 : (i : Int) < (n : Int) := by omega
      simp only [hc5, F_ref_Table, g_ref_Table, go_sem, reduceIte, Nat.reduceEqDiff, Nat.reduceAdd, Nat.reduceMul, Nat.reduceSub, reduceCtorEq, Nat.reduceLeDiff, Nat.reduceLT, Int.reduceLT, Int.reduceLE, Int.reduceToNat, Int.reduceAdd, Int.reduceSub, Int.reduceNeg, Int.reduceMul, Int.reduceEq, ← Bool.decide_and, ← Bool.decide_or, ↓tq_n, ↓tq_e, ↓tq_r, ↓bq_n, ↓bq_e, ↓bq_r, ↓rq_n, ↓rq_r, ↓rq_e]
      refine awp_loop (α := Nat × List Bool) (fun p => [(0, I n), (4, .ptr b4 0), (5, .ptr b5 0), (7, I m), (8, I i), (9, I p.1)]) (fun p => B.put b5 (bls p.2)) (fun p => p.1 ≤ n ∧ TI n a m i p.1 p.2) (fun p => n - p.1) (0, tb) ⟨Nat.zero_le _, i2⟩ (GStep.forget (by repeat' first | exact EnvLe.nil _ | refine EnvLe.cons (AV.le.of_eq rfl) ?_ | refine EnvLe.cons (AV.le.undef _) ?_ | refine EnvLe.cons AV.le.unk ?_) (by repeat' first | exact AH.le.refl _ | assumption | (refine AH.le_put ?_ (by first | assumption | exact (AH.blk_put_ne _ _ (by assumption)).trans (by assumption) | exact AH.none_put (by assumption) | exact AH.none_put (AH.none_put (by assumption)) | (simp only [AH.blk_setTok, AH.tok_put] at *; first | assumption | exact AH.none_put (by assumption)))) | (refine AH.le_setTok ?_ (by first | assumption | exact (AH.blk_put_ne _ _ (by assumption)).trans (by assumption) | exact AH.none_put (by assumption) | exact AH.none_put (AH.none_put (by assumption)) | (simp only [AH.blk_setTok, AH.tok_put] at *; first | assumption | exact AH.none_put (by assumption)))) | (refine AH.le_putM ?_ (by first | assumption | exact (AH.mp_putM_ne _ _ (by assumption)).trans (by assumption) | (simp only [AH.mp_put, AH.mp_setTok] at *; assumption))))) fun p hp => .of_vg hm ?_
      obtain ⟨j, tb⟩ := p
      obtain ⟨j1, j2⟩ := hp
      simp only at j1 j2 ⊢
      by_cases h6 : j < n
      · have hc6 : (j : Int) < (n : Int) := by omega
        have hst := ti_step hn h4 h5 h6 j2
        have hL := j2.len
        have q1 : (m : Int) < 24 := by omega
        have q2 : (i : Int) < 24 := by omega
        have q3 : (j : Int) < 24 := by omega
        have q1' : (m : Int) < ((24 : Nat) : Int) := by omega
        have q2' : (i : Int) < ((24 : Nat) : Int) := by omega
        have q3' : (j : Int) < ((24 : Nat) : Int) := by omega
        have q4 : (0 : Int) ≤ (m : Int) := by omega
        have q5 : (0 : Int) ≤ (i : Int) := by omega
        have q6 : (0 : Int) ≤ (j : Int) := by omega
        have e1 : tb.getD (i * 24 + m) false = tg tb i m := rfl
        have e2 : tb.getD (m * 24 + j) false = tg tb m j := rfl
        have r1 := bls_drop (l := tb) (i := i * 24 + m) (by omega)
        have r2 := bls_drop (l := tb) (i := m * 24 + j) (by omega)
        rw [e1] at r1
        rw [e2] at r2
        have hcl : i * 24 + j + 1 ≤ (bls tb).length := by rw [bls_len, hL]; omega
        cases k1 : tg tb i m with
        | false =>
          rw [k1, Bool.false_and, if_neg (by decide)] at hst
          rw [k1] at r1
          simp only [hc6, q1, q2, q3, q1', q2', q3', q4, q5, q6, Nat.zero_add, Nat.mul_one, r1, AH.blk_put, F_ref_Table, g_ref_Table, go_sem, reduceIte, Nat.reduceEqDiff, Nat.reduceAdd, Nat.reduceMul, Nat.reduceSub, reduceCtorEq, Nat.reduceLeDiff, Nat.reduceLT, Int.reduceLT, Int.reduceLE, Int.reduceToNat, Int.reduceAdd, Int.reduceSub, Int.reduceNeg, Int.reduceMul, Int.reduceEq, ← Bool.decide_and, ← Bool.decide_or, ↓tq_n, ↓tq_e, ↓tq_r, ↓bq_n, ↓bq_e, ↓bq_r, ↓rq_n, ↓rq_r, ↓rq_e]
          exact ⟨by rw [inR64]; omega, (j + 1, tb), ⟨by simp only; omega, hst⟩, by simp only; omega, (GStep.forget (by repeat' first | exact EnvLe.nil _ | refine EnvLe.cons (AV.le.of_eq rfl) ?_ | refine EnvLe.cons (AV.le.undef _) ?_ | refine EnvLe.cons AV.le.unk ?_) (by repeat' first | exact AH.le.refl _ | assumption | (refine AH.le_put ?_ (by first | assumption | exact (AH.blk_put_ne _ _ (by assumption)).trans (by assumption) | exact AH.none_put (by assumption) | exact AH.none_put (AH.none_put (by assumption)) | (simp only [AH.blk_setTok, AH.tok_put] at *; first | assumption | exact AH.none_put (by assumption)))) | (refine AH.le_setTok ?_ (by first | assumption | exact (AH.blk_put_ne _ _ (by assumption)).trans (by assumption) | exact AH.none_put (by assumption) | exact AH.none_put (AH.none_put (by assumption)) | (simp only [AH.blk_setTok, AH.tok_put] at *; first | assumption | exact AH.none_put (by assumption)))) | (refine AH.le_putM ?_ (by first | assumption | exact (AH.mp_putM_ne _ _ (by assumption)).trans (by assumption) | (simp only [AH.mp_put, AH.mp_setTok] at *; assumption)))))⟩
        | true =>
          rw [k1] at r1
          cases k2 : tg tb m j with
          | false =>
            rw [k1, k2, Bool.true_and, if_neg (by decide)] at hst
            rw [k2] at r2
            simp only [hc6, q1, q2, q3, q1', q2', q3', q4, q5, q6, Nat.zero_add, Nat.mul_one, r1, r2, AH.blk_put, F_ref_Table, g_ref_Table, go_sem, reduceIte, Nat.reduceEqDiff, Nat.reduceAdd, Nat.reduceMul, Nat.reduceSub, reduceCtorEq, Nat.reduceLeDiff, Nat.reduceLT, Int.reduceLT, Int.reduceLE, Int.reduceToNat, Int.reduceAdd, Int.reduceSub, Int.reduceNeg, Int.reduceMul, Int.reduceEq, ← Bool.decide_and, ← Bool.decide_or, ↓tq_n, ↓tq_e, ↓tq_r, ↓bq_n, ↓bq_e, ↓bq_r, ↓rq_n, ↓rq_r, ↓rq_e]
            exact ⟨by rw [inR64]; omega, (j + 1, tb), ⟨by simp only; omega, hst⟩, by simp only; omega, (GStep.forget (by repeat' first | exact EnvLe.nil _ | refine EnvLe.cons (AV.le.of_eq rfl) ?_ | refine EnvLe.cons (AV.le.undef _) ?_ | refine EnvLe.cons AV.le.unk ?_) (by repeat' first | exact AH.le.refl _ | assumption | (refine AH.le_put ?_ (by first | assumption | exact (AH.blk_put_ne _ _ (by assumption)).trans (by assumption) | exact AH.none_put (by assumption) | exact AH.none_put (AH.none_put (by assumption)) | (simp only [AH.blk_setTok, AH.tok_put] at *; first | assumption | exact AH.none_put (by assumption)))) | (refine AH.le_setTok ?_ (by first | assumption | exact (AH.blk_put_ne _ _ (by assumption)).trans (by assumption) | exact AH.none_put (by assumption) | exact AH.none_put (AH.none_put (by assumption)) | (simp only [AH.blk_setTok, AH.tok_put] at *; first | assumption | exact AH.none_put (by assumption)))) | (refine AH.le_putM ?_ (by first | assumption | exact (AH.mp_putM_ne _ _ (by assumption)).trans (by assumption) | (simp only [AH.mp_put, AH.mp_setTok] at *; assumption)))))⟩
          | true =>
            rw [k1, k2, Bool.true_and, if_pos rfl] at hst
            rw [k2] at r2
            simp only [hc6, q1, q2, q3, q1', q2', q3', q4, q5, q6, Nat.zero_add, Nat.mul_one, r1, r2, hcl, AH.blk_put, F_ref_Table, g_ref_Table, go_sem, reduceIte, Nat.reduceEqDiff, Nat.reduceAdd, Nat.reduceMul, Nat.reduceSub, reduceCtorEq, Nat.reduceLeDiff, Nat.reduceLT, Int.reduceLT, Int.reduceLE, Int.reduceToNat, Int.reduceAdd, Int.reduceSub, Int.reduceNeg, Int.reduceMul, Int.reduceEq, ← Bool.decide_and, ← Bool.decide_or, ↓tq_n, ↓tq_e, ↓tq_r, ↓bq_n, ↓bq_e, ↓bq_r, ↓rq_n, ↓rq_r, ↓rq_e]
            refine ⟨by rw [inR64]; omega, (j + 1, tb.set (i * 24 + j) true), ⟨by simp only; omega, hst⟩, by simp only; omega, ?_⟩
            simp only [← bls_set]
            exact (GStep.forget (by repeat' first | exact EnvLe.nil _ | refine EnvLe.cons (AV.le.of_eq rfl) ?_ | refine EnvLe.cons (AV.le.undef _) ?_ | refine EnvLe.cons AV.le.unk ?_) (by repeat' first | exact AH.le.refl _ | assumption | (refine AH.le_put ?_ (by first | assumption | exact (AH.blk_put_ne _ _ (by assumption)).trans (by assumption) | exact AH.none_put (by assumption) | exact AH.none_put (AH.none_put (by assumption)) | (simp only [AH.blk_setTok, AH.tok_put] at *; first | assumption | exact AH.none_put (by assumption)))) | (refine AH.le_setTok ?_ (by first | assumption | exact (AH.blk_put_ne _ _ (by assumption)).trans (by assumption) | exact AH.none_put (by assumption) | exact AH.none_put (AH.none_put (by assumption)) | (simp only [AH.blk_setTok, AH.tok_put] at *; first | assumption | exact AH.none_put (by assumption)))) | (refine AH.le_putM ?_ (by first | assumption | exact (AH.mp_putM_ne _ _ (by assumption)).trans (by assumption) | (simp only [AH.mp_put, AH.mp_setTok] at *; assumption)))))
      have h6 : j = n := by omega
      subst h6
      simp only [F_ref_Table, g_ref_Table, go_sem, reduceIte, Nat.reduceEqDiff, Nat.reduceAdd, Nat.reduceMul, Nat.reduceSub, reduceCtorEq, Nat.reduceLeDiff, Nat.reduceLT, Int.reduceLT, Int.reduceLE, Int.reduceToNat, Int.reduceAdd, Int.reduceSub, Int.reduceNeg, Int.reduceMul, Int.reduceEq, ← Bool.decide_and, ← Bool.decide_or, ↓tq_n, ↓tq_e, ↓tq_r, ↓bq_n, ↓bq_e, ↓bq_r, ↓rq_n, ↓rq_r, ↓rq_e]
      exact ⟨by rw [inR64]; omega, (i + 1, tb), ⟨by simp only; omega, ti_row hE j2⟩, by simp only; omega, (GStep.forget (by repeat' first | exact EnvLe.nil _ | refine EnvLe.cons (AV.le.of_eq rfl) ?_ | refine EnvLe.cons (AV.le.undef _) ?_ | refine EnvLe.cons AV.le.unk ?_) (by repeat' first | exact AH.le.refl _ | assumption | (refine AH.le_put ?_ (by first | assumption | exact (AH.blk_put_ne _ _ (by assumption)).trans (by assumption) | exact AH.none_put (by assumption) | exact AH.none_put (AH.none_put (by assumption)) | (simp only [AH.blk_setTok, AH.tok_put] at *; first | assumption | exact AH.none_put (by assumption)))) | (refine AH.le_setTok ?_ (by first | assumption | exact (AH.blk_put_ne _ _ (by assumption)).trans (by assumption) | exact AH.none_put (by assumption) | exact AH.none_put (AH.none_put (by assumption)) | (simp only [AH.blk_setTok, AH.tok_put] at *; first | assumption | exact AH.none_put (by assumption)))) | (refine AH.le_putM ?_ (by first | assumption | exact (AH.mp_putM_ne _ _ (by assumption)).trans (by assumption) | (simp only [AH.mp_put, AH.mp_setTok] at *; assumption)))))⟩
    have h5 : i = n := by omega
    subst h5
    simp only [F_ref_Table, g_ref_Table, go_sem, reduceIte, Nat.reduceEqDiff, Nat.reduceAdd, Nat.reduceMul, Nat.reduceSub, reduceCtorEq, Nat.reduceLeDiff, Nat.reduceLT, Int.reduceLT, Int.reduceLE, Int.reduceToNat, Int.reduceAdd, Int.reduceSub, Int.reduceNeg, Int.reduceMul, Int.reduceEq, ← Bool.decide_and, ← Bool.decide_or, ↓tq_n, ↓tq_e, ↓tq_r, ↓bq_n, ↓bq_e, ↓bq_r, ↓rq_n, ↓rq_r, ↓rq_e]
    exact ⟨by rw [inR64]; omega, (m + 1, tb), ⟨by simp only; omega, ti_next hE i2⟩, by simp only; omega, (GStep.forget (by repeat' first | exact EnvLe.nil _ | refine EnvLe.cons (AV.le.of_eq rfl) ?_ | refine EnvLe.cons (AV.le.undef _) ?_ | refine EnvLe.cons AV.le.unk ?_) (by repeat' first | exact AH.le.refl _ | assumption | (refine AH.le_put ?_ (by first | assumption | exact (AH.blk_put_ne _ _ (by assumption)).trans (by assumption) | exact AH.none_put (by assumption) | exact AH.none_put (AH.none_put (by assumption)) | (simp only [AH.blk_setTok, AH.tok_put] at *; first | assumption | exact AH.none_put (by assumption)))) | (refine AH.le_setTok ?_ (by first | assumption | exact (AH.blk_put_ne _ _ (by assumption)).trans (by assumption) | exact AH.none_put (by assumption) | exact AH.none_put (AH.none_put (by assumption)) | (simp only [AH.blk_setTok, AH.tok_put] at *; first | assumption | exact AH.none_put (by assumption)))) | (refine AH.le_putM ?_ (by first | assumption | exact (AH.mp_putM_ne _ _ (by assumption)).trans (by assumption) | (simp only [AH.mp_put, AH.mp_setTok] at *; assumption)))))⟩
  have h4 : m = n := by omega
  subst h4
  have hL := m2.len
  have hfin : tb = tabF m a := tab_ext hL fun u v hu hv => ⟨fun k => by
    have k1 := m2.hi u v hu hv k
    rcases k1 with k1 | ⟨k1, k2⟩
    · exact k1
    · have := (pm_lt hE k1).2; omega, fun k => m2.lo u v hu hv k⟩
  have hLN : ∀ K, LoadN 576 [] (bls tb) (c := ⟨K⟩) = K (.st (bls tb)) := fun K => by
    unfold LoadN
    rw [List.take_of_length_le (by rw [bls_len, hL]; exact Nat.le_refl _), List.nil_append]
    exact propext ⟨fun k => k.2, fun k => ⟨by rw [bls_len, hL]; exact Nat.le_refl _, k⟩⟩
  rw [hfin] at hLN ⊢
  have hsp : spl (bls z576) 0 (bls (tabF m a)) = bls (tabF m a) := by
    rw [spl_eq _ _ _ (by rw [bls_len, bls_len, z576_len, tabF_len]; omega), List.take_zero, List.nil_append, List.drop_of_length_le (by rw [bls_len, bls_len, z576_len, tabF_len]; omega), List.append_nil]
  have hl4 : (bls (tabF m a)).length = 576 := by rw [bls_len, tabF_len]
  have hone := bls_one (tabF m a)
  have hz4 : (bls z576).length = 576 := by rw [bls_len, z576_len]
  simp only [hLN, AH.blk_put, AH.blk_put_ne _ _ hne.symm, hbB, List.drop_zero, hsp, hl4, hone, hz4, Nat.zero_add, F_ref_Table, g_ref_Table, go_sem, reduceIte, Nat.reduceEqDiff, Nat.reduceAdd, Nat.reduceMul, Nat.reduceSub, reduceCtorEq, Nat.reduceLeDiff, Nat.reduceLT, Int.reduceLT, Int.reduceLE, Int.reduceToNat, Int.reduceAdd, Int.reduceSub, Int.reduceNeg, Int.reduceMul, Int.reduceEq, ← Bool.decide_and, ← Bool.decide_or, ↓tq_n, ↓tq_e, ↓tq_r, ↓bq_n, ↓bq_e, ↓bq_r, ↓rq_n, ↓rq_r, ↓rq_e]
  exact ret_hb (AH.le_put (AH.le_put hleB hb5') hb4) rfl
end Go.Proofs.Ytndcbompcnlhmaa
namespace Go.Proofs.Ytndcbompcnlhmaa
open Go Go.Abs
set_option linter.unusedSimpArgs false
set_option linter.unusedVariables false
set_option maxRecDepth 20000

/-- Whether a piece leads from a place to a place. -/
def qE (P : List T3) (i k : Nat) : Bool := P.any fun p => decide (p.2.1 = (i : Int)) && decide (p.2.2 = (k : Int))
theorem qE_iff {P : List T3} {i k : Nat} : qE P i k = true ↔ EP P i k := by
  unfold qE EP
  rw [List.any_eq_true]
  simp only [Bool.and_eq_true, decide_eq_true_eq]
theorem ar_tb {l : List Spm} {c : List (Int × Int)} (h : gaE l c = 0) : arcL (pcs l c) = tbK (qE (pcs l c)) l.length l.length := by
  refine pasc_ext (arcL_asc _) (tbK_asc _ _ _) fun x => ?_
  rw [mem_arcL, mem_tbK]
  constructor
  · rintro ⟨p, hp, rfl⟩
    have hr := (ga_ok h).2.2.1 p hp
    refine ⟨p.2.1.toNat, p.2.2.toNat, by omega, by omega, qE_iff.2 ⟨p, hp, by omega, by omega⟩, ?_⟩
    exact Prod.ext (by simp only; omega) (by simp only; omega)
  · rintro ⟨a, k, h1, h2, h3, rfl⟩
    obtain ⟨p, hp, e1, e2⟩ := qE_iff.1 h3
    exact ⟨p, hp, Prod.ext e1 e2⟩
theorem ar_len {l : List Spm} {c : List (Int × Int)} (h : gaE l c = 0) : (arcL (pcs l c)).length ≤ l.length * l.length := by
  rw [ar_tb h]; exact tbK_len _ _ _
set_option maxHeartbeats 2000000 in
theorem r_base_Digraph (n : Nat) (hn : n ≤ 24) (nl : Bool) (a : List (Int × Int)) (tl : Tail) (hd : Dg n a) (hal : a.length ≤ n * n) (h : AH) : RCall Try.prog n_base_Digraph [I n, .sl nl a.length (prs a) tl] h (.bool true) := by
  refine RCall.of hm cF_base_Digraph (by simp [g_base_Digraph]) fun hw h' hl => ?_
  have hx := wf_len (hw _ (.tail _ (.head _)))
  have h0 : ¬ (n : Int) < 0 := by omega
  have h1 : ¬ (24 : Int) < (n : Int) := by omega
  have hnn : n * n ≤ 24 * 24 := Nat.mul_le_mul hn hn
  have hmul : (n : Int) * (n : Int) = ((n * n : Nat) : Int) := by simp
  have hmr : InR .i64 ((n * n : Nat) : Int) := by rw [inR64]; omega
  have h2 : ¬ ((n * n : Nat) : Int) < (a.length : Int) := by omega
  simp only [h0, h1, hmul, hmr, h2, F_base_Digraph, g_base_Digraph, go_sem, reduceIte, Nat.reduceEqDiff, Nat.reduceAdd, Nat.reduceMul, Nat.reduceSub, reduceCtorEq, Nat.reduceLeDiff, Nat.reduceLT, Int.reduceLT, Int.reduceLE, Int.reduceToNat, Int.reduceAdd, Int.reduceSub, Int.reduceNeg, Int.reduceMul, Int.reduceEq, ← Bool.decide_and, ← Bool.decide_or, ↓tq_n, ↓tq_e, ↓tq_r, ↓bq_n, ↓bq_e, ↓bq_r, ↓rq_n, ↓rq_r, ↓rq_e]
  refine awp_loop (fun i : Nat => [(0, I n), (1, .sl nl a.length (prs a) tl), (5, I i)]) (fun _ => h') (fun i => i ≤ a.length) (fun i => a.length - i) 0 (Nat.zero_le _) (GStep.forget (by repeat' first | exact EnvLe.nil _ | refine EnvLe.cons (AV.le.of_eq rfl) ?_ | refine EnvLe.cons (AV.le.undef _) ?_ | refine EnvLe.cons AV.le.unk ?_) (by repeat' first | exact AH.le.refl _ | assumption | (refine AH.le_put ?_ (by first | assumption | exact (AH.blk_put_ne _ _ (by assumption)).trans (by assumption) | exact AH.none_put (by assumption) | exact AH.none_put (AH.none_put (by assumption)) | (simp only [AH.blk_setTok, AH.tok_put] at *; first | assumption | exact AH.none_put (by assumption)))) | (refine AH.le_setTok ?_ (by first | assumption | exact (AH.blk_put_ne _ _ (by assumption)).trans (by assumption) | exact AH.none_put (by assumption) | exact AH.none_put (AH.none_put (by assumption)) | (simp only [AH.blk_setTok, AH.tok_put] at *; first | assumption | exact AH.none_put (by assumption)))) | (refine AH.le_putM ?_ (by first | assumption | exact (AH.mp_putM_ne _ _ (by assumption)).trans (by assumption) | (simp only [AH.mp_put, AH.mp_setTok] at *; assumption))))) fun i hi => .of_vg hm ?_
  by_cases h5 : i < a.length
  · have hc : (i : Int) < (a.length : Int) := by omega
    obtain ⟨h6, h7⟩ := hd.2.2 i h5
    have k1 : ¬ (a.getD i (0, 0)).1 < 0 := by omega
    have k2 : ¬ (n : Int) ≤ (a.getD i (0, 0)).1 := by omega
    have k3 : ¬ (a.getD i (0, 0)).2 < 0 := by omega
    have k4 : ¬ (n : Int) ≤ (a.getD i (0, 0)).2 := by omega
    have k5 := h6.2.2.2.2
    by_cases h8 : (0 : Int) < (i : Int)
    · have e8 : ((i : Int) - 1).toNat = i - 1 := by omega
      have h9 : i - 1 < a.length := by omega
      have hr1 : InR .i64 ((i : Int) - 1) := by rw [inR64]; omega
      have hr2 : (0 : Int) ≤ (i : Int) - 1 := by omega
      have hr3 : (i : Int) - 1 < (a.length : Int) := by omega
      have k6 := h7 (by omega)
      have k7 : ¬ (a.getD i (0, 0)).1 < (a.getD (i - 1) (0, 0)).1 := by omega
      by_cases k8 : (a.getD i (0, 0)).1 = (a.getD (i - 1) (0, 0)).1
      · have k9 : ¬ (a.getD i (0, 0)).2 ≤ (a.getD (i - 1) (0, 0)).2 := by omega
        simp only [hc, prs_drop h5, k1, k2, k3, k4, k5, h8, e8, hr1, hr2, hr3, prs_drop h9, k7, decide_eq_true k8, k9, F_base_Digraph, g_base_Digraph, go_sem, reduceIte, Nat.reduceEqDiff, Nat.reduceAdd, Nat.reduceMul, Nat.reduceSub, reduceCtorEq, Nat.reduceLeDiff, Nat.reduceLT, Int.reduceLT, Int.reduceLE, Int.reduceToNat, Int.reduceAdd, Int.reduceSub, Int.reduceNeg, Int.reduceMul, Int.reduceEq, ← Bool.decide_and, ← Bool.decide_or, ↓tq_n, ↓tq_e, ↓tq_r, ↓bq_n, ↓bq_e, ↓bq_r, ↓rq_n, ↓rq_r, ↓rq_e]
        exact ⟨by rw [inR64]; omega, i + 1, by omega, by omega, (GStep.forget (by repeat' first | exact EnvLe.nil _ | refine EnvLe.cons (AV.le.of_eq rfl) ?_ | refine EnvLe.cons (AV.le.undef _) ?_ | refine EnvLe.cons AV.le.unk ?_) (by repeat' first | exact AH.le.refl _ | assumption | (refine AH.le_put ?_ (by first | assumption | exact (AH.blk_put_ne _ _ (by assumption)).trans (by assumption) | exact AH.none_put (by assumption) | exact AH.none_put (AH.none_put (by assumption)) | (simp only [AH.blk_setTok, AH.tok_put] at *; first | assumption | exact AH.none_put (by assumption)))) | (refine AH.le_setTok ?_ (by first | assumption | exact (AH.blk_put_ne _ _ (by assumption)).trans (by assumption) | exact AH.none_put (by assumption) | exact AH.none_put (AH.none_put (by assumption)) | (simp only [AH.blk_setTok, AH.tok_put] at *; first | assumption | exact AH.none_put (by assumption)))) | (refine AH.le_putM ?_ (by first | assumption | exact (AH.mp_putM_ne _ _ (by assumption)).trans (by assumption) | (simp only [AH.mp_put, AH.mp_setTok] at *; assumption)))))⟩
      · simp only [hc, prs_drop h5, k1, k2, k3, k4, k5, h8, e8, hr1, hr2, hr3, prs_drop h9, k7, decide_eq_false k8, F_base_Digraph, g_base_Digraph, go_sem, reduceIte, Nat.reduceEqDiff, Nat.reduceAdd, Nat.reduceMul, Nat.reduceSub, reduceCtorEq, Nat.reduceLeDiff, Nat.reduceLT, Int.reduceLT, Int.reduceLE, Int.reduceToNat, Int.reduceAdd, Int.reduceSub, Int.reduceNeg, Int.reduceMul, Int.reduceEq, ← Bool.decide_and, ← Bool.decide_or, ↓tq_n, ↓tq_e, ↓tq_r, ↓bq_n, ↓bq_e, ↓bq_r, ↓rq_n, ↓rq_r, ↓rq_e]
        exact ⟨by rw [inR64]; omega, i + 1, by omega, by omega, (GStep.forget (by repeat' first | exact EnvLe.nil _ | refine EnvLe.cons (AV.le.of_eq rfl) ?_ | refine EnvLe.cons (AV.le.undef _) ?_ | refine EnvLe.cons AV.le.unk ?_) (by repeat' first | exact AH.le.refl _ | assumption | (refine AH.le_put ?_ (by first | assumption | exact (AH.blk_put_ne _ _ (by assumption)).trans (by assumption) | exact AH.none_put (by assumption) | exact AH.none_put (AH.none_put (by assumption)) | (simp only [AH.blk_setTok, AH.tok_put] at *; first | assumption | exact AH.none_put (by assumption)))) | (refine AH.le_setTok ?_ (by first | assumption | exact (AH.blk_put_ne _ _ (by assumption)).trans (by assumption) | exact AH.none_put (by assumption) | exact AH.none_put (AH.none_put (by assumption)) | (simp only [AH.blk_setTok, AH.tok_put] at *; first | assumption | exact AH.none_put (by assumption)))) | (refine AH.le_putM ?_ (by first | assumption | exact (AH.mp_putM_ne _ _ (by assumption)).trans (by assumption) | (simp only [AH.mp_put, AH.mp_setTok] at *; assumption)))))⟩
    · simp only [hc, prs_drop h5, k1, k2, k3, k4, k5, h8, F_base_Digraph, g_base_Digraph, go_sem, reduceIte, Nat.reduceEqDiff, Nat.reduceAdd, Nat.reduceMul, Nat.reduceSub, reduceCtorEq, Nat.reduceLeDiff, Nat.reduceLT, Int.reduceLT, Int.reduceLE, Int.reduceToNat, Int.reduceAdd, Int.reduceSub, Int.reduceNeg, Int.reduceMul, Int.reduceEq, ← Bool.decide_and, ← Bool.decide_or, ↓tq_n, ↓tq_e, ↓tq_r, ↓bq_n, ↓bq_e, ↓bq_r, ↓rq_n, ↓rq_r, ↓rq_e]
      exact ⟨by rw [inR64]; omega, i + 1, by omega, by omega, (GStep.forget (by repeat' first | exact EnvLe.nil _ | refine EnvLe.cons (AV.le.of_eq rfl) ?_ | refine EnvLe.cons (AV.le.undef _) ?_ | refine EnvLe.cons AV.le.unk ?_) (by repeat' first | exact AH.le.refl _ | assumption | (refine AH.le_put ?_ (by first | assumption | exact (AH.blk_put_ne _ _ (by assumption)).trans (by assumption) | exact AH.none_put (by assumption) | exact AH.none_put (AH.none_put (by assumption)) | (simp only [AH.blk_setTok, AH.tok_put] at *; first | assumption | exact AH.none_put (by assumption)))) | (refine AH.le_setTok ?_ (by first | assumption | exact (AH.blk_put_ne _ _ (by assumption)).trans (by assumption) | exact AH.none_put (by assumption) | exact AH.none_put (AH.none_put (by assumption)) | (simp only [AH.blk_setTok, AH.tok_put] at *; first | assumption | exact AH.none_put (by assumption)))) | (refine AH.le_putM ?_ (by first | assumption | exact (AH.mp_putM_ne _ _ (by assumption)).trans (by assumption) | (simp only [AH.mp_put, AH.mp_setTok] at *; assumption)))))⟩
  have h5 : i = a.length := by omega
  subst h5
  simp only [F_base_Digraph, g_base_Digraph, go_sem, reduceIte, Nat.reduceEqDiff, Nat.reduceAdd, Nat.reduceMul, Nat.reduceSub, reduceCtorEq, Nat.reduceLeDiff, Nat.reduceLT, Int.reduceLT, Int.reduceLE, Int.reduceToNat, Int.reduceAdd, Int.reduceSub, Int.reduceNeg, Int.reduceMul, Int.reduceEq, ← Bool.decide_and, ← Bool.decide_or, ↓tq_n, ↓tq_e, ↓tq_r, ↓bq_n, ↓bq_e, ↓bq_r, ↓rq_n, ↓rq_r, ↓rq_e]
  exact ret_ok rfl
theorem r_ref_Valid (n : Nat) (hn : n ≤ 24) (nl : Bool) (a : List (Int × Int)) (tl : Tail) (hd : Dg n a) (hal : a.length ≤ n * n) (h : AH) : RCall Try.prog n_ref_Valid [I n, .sl nl a.length (prs a) tl] h (.bool true) := by
  refine RCall.of hm cF_ref_Valid (by simp [g_ref_Valid]) fun hw h' hl => ?_
  simp only [F_ref_Valid, g_ref_Valid, go_sem, reduceIte, Nat.reduceEqDiff, Nat.reduceAdd, Nat.reduceMul, Nat.reduceSub, reduceCtorEq, Nat.reduceLeDiff, Nat.reduceLT, Int.reduceLT, Int.reduceLE, Int.reduceToNat, Int.reduceAdd, Int.reduceSub, Int.reduceNeg, Int.reduceMul, Int.reduceEq, ← Bool.decide_and, ← Bool.decide_or, ↓tq_n, ↓tq_e, ↓tq_r, ↓bq_n, ↓bq_e, ↓bq_r, ↓rq_n, ↓rq_r, ↓rq_e]
  refine CallG.mk (r_base_Digraph n hn nl a tl hd hal _) ?_
  simp only [F_ref_Valid, g_ref_Valid, go_sem, reduceIte, Nat.reduceEqDiff, Nat.reduceAdd, Nat.reduceMul, Nat.reduceSub, reduceCtorEq, Nat.reduceLeDiff, Nat.reduceLT, Int.reduceLT, Int.reduceLE, Int.reduceToNat, Int.reduceAdd, Int.reduceSub, Int.reduceNeg, Int.reduceMul, Int.reduceEq, ← Bool.decide_and, ← Bool.decide_or, ↓tq_n, ↓tq_e, ↓tq_r, ↓bq_n, ↓bq_e, ↓bq_r, ↓rq_n, ↓rq_r, ↓rq_e]
  exact ret_ok rfl
/-- Whether a place reaches a place, by the table. -/
noncomputable def rcB (l : List Spm) (c : List (Int × Int)) (i k : Nat) : Bool := tg (tabF l.length (arcL (pcs l c))) i k
theorem rcB_iff {l : List Spm} {c : List (Int × Int)} (h : gaE l c = 0) {i k : Nat} (hi : i < l.length) (hk : k < l.length) : rcB l c i k = true ↔ Way (EP (pcs l c)) i k := by
  have hl := (ga_ok h).1
  unfold rcB
  rw [tabF_at (by omega) (by omega)]
  have hE : ∀ i j, EA (arcL (pcs l c)) i j ↔ EP (pcs l c) i j := fun i j => by
    unfold EA
    rw [mem_arcL]
    constructor
    · rintro ⟨p, hp, e⟩; exact ⟨p, hp, congrArg Prod.fst e, congrArg Prod.snd e⟩
    · rintro ⟨p, hp, e1, e2⟩; exact ⟨p, hp, Prod.ext e1 e2⟩
  constructor
  · intro k; exact k.way.mono fun i j e => (hE i j).1 e
  · intro k; exact Way.pm (fun i j e => ep_lt h i j ((hE i j).1 e)) (k.mono fun i j e => (hE i j).2 e)
theorem ar_arc {l : List Spm} {c : List (Int × Int)} (h : gaE l c = 0) : ∀ i, i < (arcL (pcs l c)).length → Arc l.length ((arcL (pcs l c)).getD i (0, 0)) := fun i hi => (dg_arcL h).arc i hi
section
variable {l : List Spm} {c : List (Int × Int)} (hga : gaE l c = 0)
include hga
theorem r_ref_Reaches (nl : Bool) (tl : Tail) (i k : Nat) (hi : i < l.length) (hk : k < l.length) (h : AH) : RCall Try.prog n_ref_Reaches [I l.length, .sl nl (arcL (pcs l c)).length (prs (arcL (pcs l c))) tl, I i, I k] h (.bool (rcB l c i k)) := by
  have hl24 := (ga_ok hga).1
  refine RCall.of hm cF_ref_Reaches (by simp [g_ref_Reaches]) fun hw h' hl => ?_
  simp only [F_ref_Reaches, g_ref_Reaches, go_sem, reduceIte, Nat.reduceEqDiff, Nat.reduceAdd, Nat.reduceMul, Nat.reduceSub, reduceCtorEq, Nat.reduceLeDiff, Nat.reduceLT, Int.reduceLT, Int.reduceLE, Int.reduceToNat, Int.reduceAdd, Int.reduceSub, Int.reduceNeg, Int.reduceMul, Int.reduceEq, ← Bool.decide_and, ← Bool.decide_or, ↓tq_n, ↓tq_e, ↓tq_r, ↓bq_n, ↓bq_e, ↓bq_r, ↓rq_n, ↓rq_r, ↓rq_e]
  refine CallG.mk (r_ref_Valid l.length hl24 nl _ tl (dg_arcL hga) (ar_len hga) _) ?_
  have a1 : ¬ (i : Int) < 0 := by omega
  have a2 : ¬ (l.length : Int) ≤ (i : Int) := by omega
  have a3 : ¬ (k : Int) < 0 := by omega
  have a4 : ¬ (l.length : Int) ≤ (k : Int) := by omega
  simp only [a1, a2, a3, a4, F_ref_Reaches, g_ref_Reaches, go_sem, reduceIte, Nat.reduceEqDiff, Nat.reduceAdd, Nat.reduceMul, Nat.reduceSub, reduceCtorEq, Nat.reduceLeDiff, Nat.reduceLT, Int.reduceLT, Int.reduceLE, Int.reduceToNat, Int.reduceAdd, Int.reduceSub, Int.reduceNeg, Int.reduceMul, Int.reduceEq, ← Bool.decide_and, ← Bool.decide_or, ↓tq_n, ↓tq_e, ↓tq_r, ↓bq_n, ↓bq_e, ↓bq_r, ↓rq_n, ↓rq_r, ↓rq_e]
  refine CallG.mk (r_ref_Table l.length hl24 nl _ tl (ar_arc hga) _) ?_
  have q1 : (i : Int) < 24 := by omega
  have q2 : (k : Int) < 24 := by omega
  have q1' : (i : Int) < ((24 : Nat) : Int) := by omega
  have q2' : (k : Int) < ((24 : Nat) : Int) := by omega
  have q4 : (0 : Int) ≤ (i : Int) := by omega
  have q5 : (0 : Int) ≤ (k : Int) := by omega
  have hd := bls_drop (l := tabF l.length (arcL (pcs l c))) (i := i * 24 + k) (by rw [tabF_len]; omega)
  have hdd : ((bls (tabF l.length (arcL (pcs l c)))).drop (i * 24)).drop k = .bool (rcB l c i k) :: (bls (tabF l.length (arcL (pcs l c)))).drop (i * 24 + k + 1) := by rw [List.drop_drop]; exact hd
  have hl4 : (bls (tabF l.length (arcL (pcs l c)))).length = 576 := by rw [bls_len, tabF_len]
  have hone := bls_one (tabF l.length (arcL (pcs l c)))
  simp only [q1, q2, q1', q2', q4, q5, hdd, Nat.mul_one, hl4, hone, F_ref_Reaches, g_ref_Reaches, go_sem, reduceIte, Nat.reduceEqDiff, Nat.reduceAdd, Nat.reduceMul, Nat.reduceSub, reduceCtorEq, Nat.reduceLeDiff, Nat.reduceLT, Int.reduceLT, Int.reduceLE, Int.reduceToNat, Int.reduceAdd, Int.reduceSub, Int.reduceNeg, Int.reduceMul, Int.reduceEq, ← Bool.decide_and, ← Bool.decide_or, ↓tq_n, ↓tq_e, ↓tq_r, ↓bq_n, ↓bq_e, ↓bq_r, ↓rq_n, ↓rq_r, ↓rq_e]
  exact ret_ok rfl
theorem r_ref_Acyclic (nl : Bool) (tl : Tail) (h : AH) : RCall Try.prog n_ref_Acyclic [I l.length, .sl nl (arcL (pcs l c)).length (prs (arcL (pcs l c))) tl] h (.bool (acB l c)) := by
  have hl24 := (ga_ok hga).1
  have hac := acB_iff hga
  refine RCall.of hm cF_ref_Acyclic (by simp [g_ref_Acyclic]) fun hw h' hl => ?_
  simp only [F_ref_Acyclic, g_ref_Acyclic, go_sem, reduceIte, Nat.reduceEqDiff, Nat.reduceAdd, Nat.reduceMul, Nat.reduceSub, reduceCtorEq, Nat.reduceLeDiff, Nat.reduceLT, Int.reduceLT, Int.reduceLE, Int.reduceToNat, Int.reduceAdd, Int.reduceSub, Int.reduceNeg, Int.reduceMul, Int.reduceEq, ← Bool.decide_and, ← Bool.decide_or, ↓tq_n, ↓tq_e, ↓tq_r, ↓bq_n, ↓bq_e, ↓bq_r, ↓rq_n, ↓rq_r, ↓rq_e]
  refine CallG.mk (r_ref_Valid l.length hl24 nl _ tl (dg_arcL hga) (ar_len hga) _) ?_
  simp only [F_ref_Acyclic, g_ref_Acyclic, go_sem, reduceIte, Nat.reduceEqDiff, Nat.reduceAdd, Nat.reduceMul, Nat.reduceSub, reduceCtorEq, Nat.reduceLeDiff, Nat.reduceLT, Int.reduceLT, Int.reduceLE, Int.reduceToNat, Int.reduceAdd, Int.reduceSub, Int.reduceNeg, Int.reduceMul, Int.reduceEq, ← Bool.decide_and, ← Bool.decide_or, ↓tq_n, ↓tq_e, ↓tq_r, ↓bq_n, ↓bq_e, ↓bq_r, ↓rq_n, ↓rq_r, ↓rq_e]
  refine CallG.mk (r_ref_Table l.length hl24 nl _ tl (ar_arc hga) _) ?_
  have hl4 : (bls (tabF l.length (arcL (pcs l c)))).length = 576 := by rw [bls_len, tabF_len]
  have hone := bls_one (tabF l.length (arcL (pcs l c)))
  simp only [hl4, hone, F_ref_Acyclic, g_ref_Acyclic, go_sem, reduceIte, Nat.reduceEqDiff, Nat.reduceAdd, Nat.reduceMul, Nat.reduceSub, reduceCtorEq, Nat.reduceLeDiff, Nat.reduceLT, Int.reduceLT, Int.reduceLE, Int.reduceToNat, Int.reduceAdd, Int.reduceSub, Int.reduceNeg, Int.reduceMul, Int.reduceEq, ← Bool.decide_and, ← Bool.decide_or, ↓tq_n, ↓tq_e, ↓tq_r, ↓bq_n, ↓bq_e, ↓bq_r, ↓rq_n, ↓rq_r, ↓rq_e]
  refine awp_loop (fun i : Nat => [(0, I l.length), (5, .sptr (bls (tabF l.length (arcL (pcs l c))))), (6, I i)]) (fun _ => h') (fun i => i ≤ l.length ∧ ∀ j, j < i → ¬ Way (EP (pcs l c)) j j) (fun i => l.length - i) 0 ⟨Nat.zero_le _, fun j hj => absurd hj (Nat.not_lt_zero _)⟩ (GStep.forget (by repeat' first | exact EnvLe.nil _ | refine EnvLe.cons (AV.le.of_eq rfl) ?_ | refine EnvLe.cons (AV.le.undef _) ?_ | refine EnvLe.cons AV.le.unk ?_) (by repeat' first | exact AH.le.refl _ | assumption | (refine AH.le_put ?_ (by first | assumption | exact (AH.blk_put_ne _ _ (by assumption)).trans (by assumption) | exact AH.none_put (by assumption) | exact AH.none_put (AH.none_put (by assumption)) | (simp only [AH.blk_setTok, AH.tok_put] at *; first | assumption | exact AH.none_put (by assumption)))) | (refine AH.le_setTok ?_ (by first | assumption | exact (AH.blk_put_ne _ _ (by assumption)).trans (by assumption) | exact AH.none_put (by assumption) | exact AH.none_put (AH.none_put (by assumption)) | (simp only [AH.blk_setTok, AH.tok_put] at *; first | assumption | exact AH.none_put (by assumption)))) | (refine AH.le_putM ?_ (by first | assumption | exact (AH.mp_putM_ne _ _ (by assumption)).trans (by assumption) | (simp only [AH.mp_put, AH.mp_setTok] at *; assumption))))) fun i hi => .of_vg hm ?_
  obtain ⟨hi, hno⟩ := hi
  by_cases h5 : i < l.length
  · have hc : (i : Int) < (l.length : Int) := by omega
    have q1 : (i : Int) < 24 := by omega
    have q1' : (i : Int) < ((24 : Nat) : Int) := by omega
    have q4 : (0 : Int) ≤ (i : Int) := by omega
    have hd := bls_drop (l := tabF l.length (arcL (pcs l c))) (i := i * 24 + i) (by rw [tabF_len]; omega)
    have hdd : ((bls (tabF l.length (arcL (pcs l c)))).drop (i * 24)).drop i = .bool (rcB l c i i) :: (bls (tabF l.length (arcL (pcs l c)))).drop (i * 24 + i + 1) := by rw [List.drop_drop]; exact hd
    have hr := rcB_iff hga h5 h5
    cases k : rcB l c i i with
    | true =>
      rw [k] at hdd
      simp only [hc, q1, q1', q4, hdd, Nat.mul_one, hl4, hone, F_ref_Acyclic, g_ref_Acyclic, go_sem, reduceIte, Nat.reduceEqDiff, Nat.reduceAdd, Nat.reduceMul, Nat.reduceSub, reduceCtorEq, Nat.reduceLeDiff, Nat.reduceLT, Int.reduceLT, Int.reduceLE, Int.reduceToNat, Int.reduceAdd, Int.reduceSub, Int.reduceNeg, Int.reduceMul, Int.reduceEq, ← Bool.decide_and, ← Bool.decide_or, ↓tq_n, ↓tq_e, ↓tq_r, ↓bq_n, ↓bq_e, ↓bq_r, ↓rq_n, ↓rq_r, ↓rq_e]
      exact ret_ok (by rw [Bool.eq_false_iff.2 (fun hh => hac.1 hh i (hr.1 k))])
    | false =>
      rw [k] at hdd
      simp only [hc, q1, q1', q4, hdd, Nat.mul_one, hl4, hone, F_ref_Acyclic, g_ref_Acyclic, go_sem, reduceIte, Nat.reduceEqDiff, Nat.reduceAdd, Nat.reduceMul, Nat.reduceSub, reduceCtorEq, Nat.reduceLeDiff, Nat.reduceLT, Int.reduceLT, Int.reduceLE, Int.reduceToNat, Int.reduceAdd, Int.reduceSub, Int.reduceNeg, Int.reduceMul, Int.reduceEq, ← Bool.decide_and, ← Bool.decide_or, ↓tq_n, ↓tq_e, ↓tq_r, ↓bq_n, ↓bq_e, ↓bq_r, ↓rq_n, ↓rq_r, ↓rq_e]
      exact ⟨by rw [inR64]; omega, i + 1, ⟨by omega, all_succ (p := fun j => ¬ Way (EP (pcs l c)) j j) hno (fun hw2 => by rw [hr.2 hw2] at k; cases k)⟩, by omega, (GStep.forget (by repeat' first | exact EnvLe.nil _ | refine EnvLe.cons (AV.le.of_eq rfl) ?_ | refine EnvLe.cons (AV.le.undef _) ?_ | refine EnvLe.cons AV.le.unk ?_) (by repeat' first | exact AH.le.refl _ | assumption | (refine AH.le_put ?_ (by first | assumption | exact (AH.blk_put_ne _ _ (by assumption)).trans (by assumption) | exact AH.none_put (by assumption) | exact AH.none_put (AH.none_put (by assumption)) | (simp only [AH.blk_setTok, AH.tok_put] at *; first | assumption | exact AH.none_put (by assumption)))) | (refine AH.le_setTok ?_ (by first | assumption | exact (AH.blk_put_ne _ _ (by assumption)).trans (by assumption) | exact AH.none_put (by assumption) | exact AH.none_put (AH.none_put (by assumption)) | (simp only [AH.blk_setTok, AH.tok_put] at *; first | assumption | exact AH.none_put (by assumption)))) | (refine AH.le_putM ?_ (by first | assumption | exact (AH.mp_putM_ne _ _ (by assumption)).trans (by assumption) | (simp only [AH.mp_put, AH.mp_setTok] at *; assumption)))))⟩
  have h5 : i = l.length := by omega
  subst h5
  simp only [F_ref_Acyclic, g_ref_Acyclic, go_sem, reduceIte, Nat.reduceEqDiff, Nat.reduceAdd, Nat.reduceMul, Nat.reduceSub, reduceCtorEq, Nat.reduceLeDiff, Nat.reduceLT, Int.reduceLT, Int.reduceLE, Int.reduceToNat, Int.reduceAdd, Int.reduceSub, Int.reduceNeg, Int.reduceMul, Int.reduceEq, ← Bool.decide_and, ← Bool.decide_or, ↓tq_n, ↓tq_e, ↓tq_r, ↓bq_n, ↓bq_e, ↓bq_r, ↓rq_n, ↓rq_r, ↓rq_e]
  exact ret_ok (by rw [hac.2 (fun v hv => hno v (way_lt hga hv).1 hv)])
end
end Go.Proofs.Ytndcbompcnlhmaa
namespace Go.Proofs.Ytndcbompcnlhmaa
open Go Go.Abs
set_option linter.unusedSimpArgs false
set_option linter.unusedVariables false
set_option maxRecDepth 20000

/-- A piece of evidence from an Id to an Id. -/
def fdE (x y : Int) (e : T3) : Bool := decide (e.2.1 = x) && decide (e.2.2 = y)
theorem qE_ids {l : List Spm} {P : List T3} (hck : ckE l = 0) (hP : Pc l.length P) {i k : Nat} (hi : i < l.length) (hk : k < l.length) : ((P.map (idT l)).any (fdE (l.getD i dS).id (l.getD k dS).id)) = qE P i k := by
  unfold qE
  rw [List.any_map, Bool.eq_iff_iff, List.any_eq_true, List.any_eq_true]
  have key : ∀ p ∈ P, (fdE (l.getD i dS).id (l.getD k dS).id ∘ idT l) p = (decide (p.2.1 = (i : Int)) && decide (p.2.2 = (k : Int))) := fun p hp => by
    obtain ⟨⟨z1, z2⟩, z3, z4⟩ := hP p hp
    obtain ⟨a, ha⟩ : ∃ a : Nat, p.2.1 = a := ⟨p.2.1.toNat, by omega⟩
    obtain ⟨b, hb⟩ : ∃ b : Nat, p.2.2 = b := ⟨p.2.2.toNat, by omega⟩
    simp only [Function.comp, fdE, idT, idA, ha, hb, Int.toNat_natCast]
    have e1 : ((l.getD a dS).id = (l.getD i dS).id) ↔ ((a : Int) = i) := ⟨fun h => by have := id_inj hck (by omega) hi h; omega, fun h => by rw [show a = i by omega]⟩
    have e2 : ((l.getD b dS).id = (l.getD k dS).id) ↔ ((b : Int) = k) := ⟨fun h => by have := id_inj hck (by omega) hk h; omega, fun h => by rw [show b = k by omega]⟩
    rw [decide_eq_decide.2 e1, decide_eq_decide.2 e2]
  exact ⟨fun ⟨p, hp, h⟩ => ⟨p, hp, by rw [← key p hp]; exact h⟩, fun ⟨p, hp, h⟩ => ⟨p, hp, by rw [key p hp]; exact h⟩⟩
set_option maxHeartbeats 4000000 in
theorem r_ref_Build (n1 : Bool) (l : List Spm) (u1 : Tail) (n2 : Bool) (c : List (Int × Int)) (u2 : Tail) (h : AH) : RCall Try.prog n_ref_Build [.sl n1 l.length (sms l) u1, .sl n2 c.length (prs c) u2] h (blV l c) := by
  refine RCall.of hm cF_ref_Build (by simp [g_ref_Build]) fun hw h' hl => ?_
  simp only [F_ref_Build, g_ref_Build, go_sem, reduceIte, Nat.reduceEqDiff, Nat.reduceAdd, Nat.reduceMul, Nat.reduceSub, reduceCtorEq, Nat.reduceLeDiff, Nat.reduceLT, Int.reduceLT, Int.reduceLE, Int.reduceToNat, Int.reduceAdd, Int.reduceSub, Int.reduceNeg, Int.reduceMul, Int.reduceEq, ← Bool.decide_and, ← Bool.decide_or, ↓tq_n, ↓tq_e, ↓tq_r, ↓bq_n, ↓bq_e, ↓bq_r, ↓rq_n, ↓rq_r, ↓rq_e]
  refine CallG.mk (r_ref_check n1 l u1 n2 c u2 _) ?_
  by_cases c1 : gaE l c = 0
  case neg =>
    simp only [c1, F_ref_Build, g_ref_Build, go_sem, reduceIte, Nat.reduceEqDiff, Nat.reduceAdd, Nat.reduceMul, Nat.reduceSub, reduceCtorEq, Nat.reduceLeDiff, Nat.reduceLT, Int.reduceLT, Int.reduceLE, Int.reduceToNat, Int.reduceAdd, Int.reduceSub, Int.reduceNeg, Int.reduceMul, Int.reduceEq, ← Bool.decide_and, ← Bool.decide_or, ↓tq_n, ↓tq_e, ↓tq_r, ↓bq_n, ↓bq_e, ↓bq_r, ↓rq_n, ↓rq_r, ↓rq_e]
    exact ret_ok (by unfold blV; rw [if_neg c1])
  obtain ⟨hl24, hck, g3, g4, g5, _⟩ := ga_ok c1
  have hbl : blV l c = .tup [gl (prs (tbK (qE (pcs l c)) l.length l.length)) (tbK (qE (pcs l c)) l.length l.length).length .unk, I 0] := by unfold blV; rw [if_pos c1, ar_tb c1]
  rw [hbl]
  simp only [c1, F_ref_Build, g_ref_Build, go_sem, reduceIte, Nat.reduceEqDiff, Nat.reduceAdd, Nat.reduceMul, Nat.reduceSub, reduceCtorEq, Nat.reduceLeDiff, Nat.reduceLT, Int.reduceLT, Int.reduceLE, Int.reduceToNat, Int.reduceAdd, Int.reduceSub, Int.reduceNeg, Int.reduceMul, Int.reduceEq, ← Bool.decide_and, ← Bool.decide_or, ↓tq_n, ↓tq_e, ↓tq_r, ↓bq_n, ↓bq_e, ↓bq_r, ↓rq_n, ↓rq_r, ↓rq_e]
  refine CallG.mk (r_ref_Proofs n1 l u1 n2 c u2 c1 _) ?_
  have hid := fun {i k : Nat} (hi : i < l.length) (hk : k < l.length) => qE_ids hck g3 hi hk
  obtain ⟨R, hR⟩ : ∃ R, R = (pcs l c).map (idT l) := ⟨_, rfl⟩
  have hRl : R.length ≤ 1300 := by rw [hR, List.length_map]; exact g4
  rw [← hR] at hid ⊢
  obtain ⟨q, hq⟩ : ∃ q, q = qE (pcs l c) := ⟨_, rfl⟩
  rw [← hq] at hid ⊢
  simp only [F_ref_Build, g_ref_Build, go_sem, reduceIte, Nat.reduceEqDiff, Nat.reduceAdd, Nat.reduceMul, Nat.reduceSub, reduceCtorEq, Nat.reduceLeDiff, Nat.reduceLT, Int.reduceLT, Int.reduceLE, Int.reduceToNat, Int.reduceAdd, Int.reduceSub, Int.reduceNeg, Int.reduceMul, Int.reduceEq, ← Bool.decide_and, ← Bool.decide_or, ↓tq_n, ↓tq_e, ↓tq_r, ↓bq_n, ↓bq_e, ↓bq_r, ↓rq_n, ↓rq_r, ↓rq_e]
  refine awp_tok 8 2 (nl := true) (n := 0) (cs := []) rfl fun t ht => ?_
  refine awp_loop (fun i : Nat => [(0, .sl n1 l.length (sms l) u1), (7, gl (trs R) R.length .unk), (8, gl (prs (tbK q l.length i)) (tbK q l.length i).length (.tok t)), (9, I i)]) (fun i => h'.setTok t (tbK q l.length i).length 2) (fun i => i ≤ l.length) (fun i => l.length - i) 0 (Nat.zero_le _) (GStep.forget (by repeat' first | exact EnvLe.nil _ | refine EnvLe.cons (AV.le.of_eq rfl) ?_ | refine EnvLe.cons (AV.le.undef _) ?_ | refine EnvLe.cons AV.le.unk ?_) (by repeat' first | exact AH.le.refl _ | assumption | (refine AH.le_put ?_ (by first | assumption | exact (AH.blk_put_ne _ _ (by assumption)).trans (by assumption) | exact AH.none_put (by assumption) | exact AH.none_put (AH.none_put (by assumption)) | (simp only [AH.blk_setTok, AH.tok_put] at *; first | assumption | exact AH.none_put (by assumption)))) | (refine AH.le_setTok ?_ (by first | assumption | exact (AH.blk_put_ne _ _ (by assumption)).trans (by assumption) | exact AH.none_put (by assumption) | exact AH.none_put (AH.none_put (by assumption)) | (simp only [AH.blk_setTok, AH.tok_put] at *; first | assumption | exact AH.none_put (by assumption)))) | (refine AH.le_putM ?_ (by first | assumption | exact (AH.mp_putM_ne _ _ (by assumption)).trans (by assumption) | (simp only [AH.mp_put, AH.mp_setTok] at *; assumption))))) fun i hi => .of_vg hm ?_
  by_cases h3 : i < l.length
  case neg =>
    have h3 : i = l.length := by omega
    subst h3
    simp only [F_ref_Build, g_ref_Build, go_sem, reduceIte, Nat.reduceEqDiff, Nat.reduceAdd, Nat.reduceMul, Nat.reduceSub, reduceCtorEq, Nat.reduceLeDiff, Nat.reduceLT, Int.reduceLT, Int.reduceLE, Int.reduceToNat, Int.reduceAdd, Int.reduceSub, Int.reduceNeg, Int.reduceMul, Int.reduceEq, ← Bool.decide_and, ← Bool.decide_or, ↓tq_n, ↓tq_e, ↓tq_r, ↓bq_n, ↓bq_e, ↓bq_r, ↓rq_n, ↓rq_r, ↓rq_e]
    exact ret_le (by repeat' first | exact AH.le.refl _ | assumption | (refine AH.le_put ?_ (by first | assumption | exact (AH.blk_put_ne _ _ (by assumption)).trans (by assumption) | exact AH.none_put (by assumption) | exact AH.none_put (AH.none_put (by assumption)) | (simp only [AH.blk_setTok, AH.tok_put] at *; first | assumption | exact AH.none_put (by assumption)))) | (refine AH.le_setTok ?_ (by first | assumption | exact (AH.blk_put_ne _ _ (by assumption)).trans (by assumption) | exact AH.none_put (by assumption) | exact AH.none_put (AH.none_put (by assumption)) | (simp only [AH.blk_setTok, AH.tok_put] at *; first | assumption | exact AH.none_put (by assumption)))) | (refine AH.le_putM ?_ (by first | assumption | exact (AH.mp_putM_ne _ _ (by assumption)).trans (by assumption) | (simp only [AH.mp_put, AH.mp_setTok] at *; assumption)))) (AV.le.tupC (.cons AV.le.unk (.cons (AV.le.refl _) .nil)))
  have hc : (i : Int) < (l.length : Int) := by omega
  have hT := tbK_len q l.length i
  have hT2 : i * l.length ≤ 24 * 24 := Nat.mul_le_mul (by omega) hl24
  have hsucc := tbK_succ q l.length i
  simp only [hc, F_ref_Build, g_ref_Build, go_sem, reduceIte, Nat.reduceEqDiff, Nat.reduceAdd, Nat.reduceMul, Nat.reduceSub, reduceCtorEq, Nat.reduceLeDiff, Nat.reduceLT, Int.reduceLT, Int.reduceLE, Int.reduceToNat, Int.reduceAdd, Int.reduceSub, Int.reduceNeg, Int.reduceMul, Int.reduceEq, ← Bool.decide_and, ← Bool.decide_or, ↓tq_n, ↓tq_e, ↓tq_r, ↓bq_n, ↓bq_e, ↓bq_r, ↓rq_n, ↓rq_r, ↓rq_e]
  refine awp_loop (fun k : Nat => [(0, .sl n1 l.length (sms l) u1), (7, gl (trs R) R.length .unk), (8, gl (prs (tbK q l.length i ++ rwK (q i) i k)) (tbK q l.length i ++ rwK (q i) i k).length (.tok t)), (9, I i), (10, I k)]) (fun k => h'.setTok t (tbK q l.length i ++ rwK (q i) i k).length 2) (fun k => k ≤ l.length) (fun k => l.length - k) 0 (Nat.zero_le _) ?_ fun k hk => .of_vg hm ?_
  · have e0 : rwK (q i) i 0 = [] := rfl
    rw [e0, List.append_nil]
    exact (GStep.forget (by repeat' first | exact EnvLe.nil _ | refine EnvLe.cons (AV.le.of_eq rfl) ?_ | refine EnvLe.cons (AV.le.undef _) ?_ | refine EnvLe.cons AV.le.unk ?_) (by repeat' first | exact AH.le.refl _ | assumption | (refine AH.le_put ?_ (by first | assumption | exact (AH.blk_put_ne _ _ (by assumption)).trans (by assumption) | exact AH.none_put (by assumption) | exact AH.none_put (AH.none_put (by assumption)) | (simp only [AH.blk_setTok, AH.tok_put] at *; first | assumption | exact AH.none_put (by assumption)))) | (refine AH.le_setTok ?_ (by first | assumption | exact (AH.blk_put_ne _ _ (by assumption)).trans (by assumption) | exact AH.none_put (by assumption) | exact AH.none_put (AH.none_put (by assumption)) | (simp only [AH.blk_setTok, AH.tok_put] at *; first | assumption | exact AH.none_put (by assumption)))) | (refine AH.le_putM ?_ (by first | assumption | exact (AH.mp_putM_ne _ _ (by assumption)).trans (by assumption) | (simp only [AH.mp_put, AH.mp_setTok] at *; assumption)))))
  by_cases h4 : k < l.length
  · have hck' : (k : Int) < (l.length : Int) := by omega
    have hRw := rwK_len (q i) i k
    have hrs := rwK_succ (q i) i k
    simp only [hck', F_ref_Build, g_ref_Build, go_sem, reduceIte, Nat.reduceEqDiff, Nat.reduceAdd, Nat.reduceMul, Nat.reduceSub, reduceCtorEq, Nat.reduceLeDiff, Nat.reduceLT, Int.reduceLT, Int.reduceLE, Int.reduceToNat, Int.reduceAdd, Int.reduceSub, Int.reduceNeg, Int.reduceMul, Int.reduceEq, ← Bool.decide_and, ← Bool.decide_or, ↓tq_n, ↓tq_e, ↓tq_r, ↓bq_n, ↓bq_e, ↓bq_r, ↓rq_n, ↓rq_r, ↓rq_e]
    refine awp_loop (fun j : Nat => [(0, .sl n1 l.length (sms l) u1), (7, gl (trs R) R.length .unk), (8, gl (prs (tbK q l.length i ++ rwK (q i) i k)) (tbK q l.length i ++ rwK (q i) i k).length (.tok t)), (9, I i), (10, I k), (11, .bool ((R.take j).any (fdE (l.getD i dS).id (l.getD k dS).id))), (12, I j)]) (fun j => h'.setTok t (tbK q l.length i ++ rwK (q i) i k).length 2) (fun j => j ≤ R.length) (fun j => R.length - j) 0 (Nat.zero_le _) (GStep.forget (by repeat' first | exact EnvLe.nil _ | refine EnvLe.cons (AV.le.of_eq rfl) ?_ | refine EnvLe.cons (AV.le.undef _) ?_ | refine EnvLe.cons AV.le.unk ?_) (by repeat' first | exact AH.le.refl _ | assumption | (refine AH.le_put ?_ (by first | assumption | exact (AH.blk_put_ne _ _ (by assumption)).trans (by assumption) | exact AH.none_put (by assumption) | exact AH.none_put (AH.none_put (by assumption)) | (simp only [AH.blk_setTok, AH.tok_put] at *; first | assumption | exact AH.none_put (by assumption)))) | (refine AH.le_setTok ?_ (by first | assumption | exact (AH.blk_put_ne _ _ (by assumption)).trans (by assumption) | exact AH.none_put (by assumption) | exact AH.none_put (AH.none_put (by assumption)) | (simp only [AH.blk_setTok, AH.tok_put] at *; first | assumption | exact AH.none_put (by assumption)))) | (refine AH.le_putM ?_ (by first | assumption | exact (AH.mp_putM_ne _ _ (by assumption)).trans (by assumption) | (simp only [AH.mp_put, AH.mp_setTok] at *; assumption))))) fun j hj => .of_vg hm ?_
    by_cases h5 : j < R.length
    · have hc5 : (j : Int) < (R.length : Int) := by omega
      have hs := any_take_succ d3 (p := fdE (l.getD i dS).id (l.getD k dS).id) h5
      have hfe : fdE (l.getD i dS).id (l.getD k dS).id (R.getD j d3) = (decide ((R.getD j d3).2.1 = (l.getD i dS).id) && decide ((R.getD j d3).2.2 = (l.getD k dS).id)) := rfl
      cases hf : (R.take j).any (fdE (l.getD i dS).id (l.getD k dS).id) with
      | true =>
        rw [hf, Bool.true_or] at hs
        simp only [hc5, F_ref_Build, g_ref_Build, go_sem, reduceIte, Nat.reduceEqDiff, Nat.reduceAdd, Nat.reduceMul, Nat.reduceSub, reduceCtorEq, Nat.reduceLeDiff, Nat.reduceLT, Int.reduceLT, Int.reduceLE, Int.reduceToNat, Int.reduceAdd, Int.reduceSub, Int.reduceNeg, Int.reduceMul, Int.reduceEq, ← Bool.decide_and, ← Bool.decide_or, ↓tq_n, ↓tq_e, ↓tq_r, ↓bq_n, ↓bq_e, ↓bq_r, ↓rq_n, ↓rq_r, ↓rq_e]
        exact ⟨by rw [inR64]; omega, j + 1, by omega, by omega, by rw [hs]; exact (GStep.forget (by repeat' first | exact EnvLe.nil _ | refine EnvLe.cons (AV.le.of_eq rfl) ?_ | refine EnvLe.cons (AV.le.undef _) ?_ | refine EnvLe.cons AV.le.unk ?_) (by repeat' first | exact AH.le.refl _ | assumption | (refine AH.le_put ?_ (by first | assumption | exact (AH.blk_put_ne _ _ (by assumption)).trans (by assumption) | exact AH.none_put (by assumption) | exact AH.none_put (AH.none_put (by assumption)) | (simp only [AH.blk_setTok, AH.tok_put] at *; first | assumption | exact AH.none_put (by assumption)))) | (refine AH.le_setTok ?_ (by first | assumption | exact (AH.blk_put_ne _ _ (by assumption)).trans (by assumption) | exact AH.none_put (by assumption) | exact AH.none_put (AH.none_put (by assumption)) | (simp only [AH.blk_setTok, AH.tok_put] at *; first | assumption | exact AH.none_put (by assumption)))) | (refine AH.le_putM ?_ (by first | assumption | exact (AH.mp_putM_ne _ _ (by assumption)).trans (by assumption) | (simp only [AH.mp_put, AH.mp_setTok] at *; assumption)))))⟩
      | false =>
        rw [hf, Bool.false_or, hfe] at hs
        by_cases k1 : (R.getD j d3).2.1 = (l.getD i dS).id
        · rw [decide_eq_true k1, Bool.true_and] at hs
          simp only [hc5, hc, hck', trs_drop h5, sms_drop h3, sms_drop h4, decide_eq_true k1, F_ref_Build, g_ref_Build, go_sem, reduceIte, Nat.reduceEqDiff, Nat.reduceAdd, Nat.reduceMul, Nat.reduceSub, reduceCtorEq, Nat.reduceLeDiff, Nat.reduceLT, Int.reduceLT, Int.reduceLE, Int.reduceToNat, Int.reduceAdd, Int.reduceSub, Int.reduceNeg, Int.reduceMul, Int.reduceEq, ← Bool.decide_and, ← Bool.decide_or, ↓tq_n, ↓tq_e, ↓tq_r, ↓bq_n, ↓bq_e, ↓bq_r, ↓rq_n, ↓rq_r, ↓rq_e]
          exact ⟨by rw [inR64]; omega, j + 1, by omega, by omega, by rw [hs]; exact (GStep.forget (by repeat' first | exact EnvLe.nil _ | refine EnvLe.cons (AV.le.of_eq rfl) ?_ | refine EnvLe.cons (AV.le.undef _) ?_ | refine EnvLe.cons AV.le.unk ?_) (by repeat' first | exact AH.le.refl _ | assumption | (refine AH.le_put ?_ (by first | assumption | exact (AH.blk_put_ne _ _ (by assumption)).trans (by assumption) | exact AH.none_put (by assumption) | exact AH.none_put (AH.none_put (by assumption)) | (simp only [AH.blk_setTok, AH.tok_put] at *; first | assumption | exact AH.none_put (by assumption)))) | (refine AH.le_setTok ?_ (by first | assumption | exact (AH.blk_put_ne _ _ (by assumption)).trans (by assumption) | exact AH.none_put (by assumption) | exact AH.none_put (AH.none_put (by assumption)) | (simp only [AH.blk_setTok, AH.tok_put] at *; first | assumption | exact AH.none_put (by assumption)))) | (refine AH.le_putM ?_ (by first | assumption | exact (AH.mp_putM_ne _ _ (by assumption)).trans (by assumption) | (simp only [AH.mp_put, AH.mp_setTok] at *; assumption)))))⟩
        · rw [decide_eq_false k1, Bool.false_and] at hs
          simp only [hc5, hc, hck', trs_drop h5, sms_drop h3, sms_drop h4, decide_eq_false k1, F_ref_Build, g_ref_Build, go_sem, reduceIte, Nat.reduceEqDiff, Nat.reduceAdd, Nat.reduceMul, Nat.reduceSub, reduceCtorEq, Nat.reduceLeDiff, Nat.reduceLT, Int.reduceLT, Int.reduceLE, Int.reduceToNat, Int.reduceAdd, Int.reduceSub, Int.reduceNeg, Int.reduceMul, Int.reduceEq, ← Bool.decide_and, ← Bool.decide_or, ↓tq_n, ↓tq_e, ↓tq_r, ↓bq_n, ↓bq_e, ↓bq_r, ↓rq_n, ↓rq_r, ↓rq_e]
          exact ⟨by rw [inR64]; omega, j + 1, by omega, by omega, by rw [hs]; exact (GStep.forget (by repeat' first | exact EnvLe.nil _ | refine EnvLe.cons (AV.le.of_eq rfl) ?_ | refine EnvLe.cons (AV.le.undef _) ?_ | refine EnvLe.cons AV.le.unk ?_) (by repeat' first | exact AH.le.refl _ | assumption | (refine AH.le_put ?_ (by first | assumption | exact (AH.blk_put_ne _ _ (by assumption)).trans (by assumption) | exact AH.none_put (by assumption) | exact AH.none_put (AH.none_put (by assumption)) | (simp only [AH.blk_setTok, AH.tok_put] at *; first | assumption | exact AH.none_put (by assumption)))) | (refine AH.le_setTok ?_ (by first | assumption | exact (AH.blk_put_ne _ _ (by assumption)).trans (by assumption) | exact AH.none_put (by assumption) | exact AH.none_put (AH.none_put (by assumption)) | (simp only [AH.blk_setTok, AH.tok_put] at *; first | assumption | exact AH.none_put (by assumption)))) | (refine AH.le_putM ?_ (by first | assumption | exact (AH.mp_putM_ne _ _ (by assumption)).trans (by assumption) | (simp only [AH.mp_put, AH.mp_setTok] at *; assumption)))))⟩
    have h5 : j = R.length := by omega
    subst h5
    rw [List.take_length, hid h3 h4]
    cases hqq : q i k with
    | true =>
      rw [hqq, if_pos rfl] at hrs
      simp only [F_ref_Build, g_ref_Build, go_sem, reduceIte, Nat.reduceEqDiff, Nat.reduceAdd, Nat.reduceMul, Nat.reduceSub, reduceCtorEq, Nat.reduceLeDiff, Nat.reduceLT, Int.reduceLT, Int.reduceLE, Int.reduceToNat, Int.reduceAdd, Int.reduceSub, Int.reduceNeg, Int.reduceMul, Int.reduceEq, ← Bool.decide_and, ← Bool.decide_or, ↓tq_n, ↓tq_e, ↓tq_r, ↓bq_n, ↓bq_e, ↓bq_r, ↓rq_n, ↓rq_r, ↓rq_e]
      refine ⟨by rw [prs_len], by rw [List.length_append]; omega, by rw [List.length_append]; omega, by rw [inR64]; omega, k + 1, by omega, by omega, ?_⟩
      rw [hrs, (prs_snoc2 _ _ _).1, (prs_snoc2 _ _ _).2]
      exact (GStep.forget (by repeat' first | exact EnvLe.nil _ | refine EnvLe.cons (AV.le.of_eq rfl) ?_ | refine EnvLe.cons (AV.le.undef _) ?_ | refine EnvLe.cons AV.le.unk ?_) (by repeat' first | exact AH.le.refl _ | assumption | (refine AH.le_put ?_ (by first | assumption | exact (AH.blk_put_ne _ _ (by assumption)).trans (by assumption) | exact AH.none_put (by assumption) | exact AH.none_put (AH.none_put (by assumption)) | (simp only [AH.blk_setTok, AH.tok_put] at *; first | assumption | exact AH.none_put (by assumption)))) | (refine AH.le_setTok ?_ (by first | assumption | exact (AH.blk_put_ne _ _ (by assumption)).trans (by assumption) | exact AH.none_put (by assumption) | exact AH.none_put (AH.none_put (by assumption)) | (simp only [AH.blk_setTok, AH.tok_put] at *; first | assumption | exact AH.none_put (by assumption)))) | (refine AH.le_putM ?_ (by first | assumption | exact (AH.mp_putM_ne _ _ (by assumption)).trans (by assumption) | (simp only [AH.mp_put, AH.mp_setTok] at *; assumption)))))
    | false =>
      rw [hqq, if_neg (by decide)] at hrs
      simp only [F_ref_Build, g_ref_Build, go_sem, reduceIte, Nat.reduceEqDiff, Nat.reduceAdd, Nat.reduceMul, Nat.reduceSub, reduceCtorEq, Nat.reduceLeDiff, Nat.reduceLT, Int.reduceLT, Int.reduceLE, Int.reduceToNat, Int.reduceAdd, Int.reduceSub, Int.reduceNeg, Int.reduceMul, Int.reduceEq, ← Bool.decide_and, ← Bool.decide_or, ↓tq_n, ↓tq_e, ↓tq_r, ↓bq_n, ↓bq_e, ↓bq_r, ↓rq_n, ↓rq_r, ↓rq_e]
      exact ⟨by rw [inR64]; omega, k + 1, by omega, by omega, by rw [hrs]; exact (GStep.forget (by repeat' first | exact EnvLe.nil _ | refine EnvLe.cons (AV.le.of_eq rfl) ?_ | refine EnvLe.cons (AV.le.undef _) ?_ | refine EnvLe.cons AV.le.unk ?_) (by repeat' first | exact AH.le.refl _ | assumption | (refine AH.le_put ?_ (by first | assumption | exact (AH.blk_put_ne _ _ (by assumption)).trans (by assumption) | exact AH.none_put (by assumption) | exact AH.none_put (AH.none_put (by assumption)) | (simp only [AH.blk_setTok, AH.tok_put] at *; first | assumption | exact AH.none_put (by assumption)))) | (refine AH.le_setTok ?_ (by first | assumption | exact (AH.blk_put_ne _ _ (by assumption)).trans (by assumption) | exact AH.none_put (by assumption) | exact AH.none_put (AH.none_put (by assumption)) | (simp only [AH.blk_setTok, AH.tok_put] at *; first | assumption | exact AH.none_put (by assumption)))) | (refine AH.le_putM ?_ (by first | assumption | exact (AH.mp_putM_ne _ _ (by assumption)).trans (by assumption) | (simp only [AH.mp_put, AH.mp_setTok] at *; assumption)))))⟩
  have h4 : k = l.length := by omega
  subst h4
  rw [← hsucc]
  simp only [F_ref_Build, g_ref_Build, go_sem, reduceIte, Nat.reduceEqDiff, Nat.reduceAdd, Nat.reduceMul, Nat.reduceSub, reduceCtorEq, Nat.reduceLeDiff, Nat.reduceLT, Int.reduceLT, Int.reduceLE, Int.reduceToNat, Int.reduceAdd, Int.reduceSub, Int.reduceNeg, Int.reduceMul, Int.reduceEq, ← Bool.decide_and, ← Bool.decide_or, ↓tq_n, ↓tq_e, ↓tq_r, ↓bq_n, ↓bq_e, ↓bq_r, ↓rq_n, ↓rq_r, ↓rq_e]
  exact ⟨by rw [inR64]; omega, i + 1, by omega, by omega, (GStep.forget (by repeat' first | exact EnvLe.nil _ | refine EnvLe.cons (AV.le.of_eq rfl) ?_ | refine EnvLe.cons (AV.le.undef _) ?_ | refine EnvLe.cons AV.le.unk ?_) (by repeat' first | exact AH.le.refl _ | assumption | (refine AH.le_put ?_ (by first | assumption | exact (AH.blk_put_ne _ _ (by assumption)).trans (by assumption) | exact AH.none_put (by assumption) | exact AH.none_put (AH.none_put (by assumption)) | (simp only [AH.blk_setTok, AH.tok_put] at *; first | assumption | exact AH.none_put (by assumption)))) | (refine AH.le_setTok ?_ (by first | assumption | exact (AH.blk_put_ne _ _ (by assumption)).trans (by assumption) | exact AH.none_put (by assumption) | exact AH.none_put (AH.none_put (by assumption)) | (simp only [AH.blk_setTok, AH.tok_put] at *; first | assumption | exact AH.none_put (by assumption)))) | (refine AH.le_putM ?_ (by first | assumption | exact (AH.mp_putM_ne _ _ (by assumption)).trans (by assumption) | (simp only [AH.mp_put, AH.mp_setTok] at *; assumption)))))⟩
theorem blV_no {l : List Spm} {c : List (Int × Int)} (h : ¬ gaE l c = 0) : blV l c = .tup [.sl true 0 [] .full, I (gaE l c)] := by unfold blV; rw [if_neg h]
theorem blV_yes {l : List Spm} {c : List (Int × Int)} (h : gaE l c = 0) : blV l c = .tup [.sl (decide ((arcL (pcs l c)).length = 0)) (arcL (pcs l c)).length (prs (arcL (pcs l c))) .unk, I 0] := by unfold blV; rw [if_pos h]; rfl
theorem r_ref_Consistent (n1 : Bool) (l : List Spm) (u1 : Tail) (n2 : Bool) (c : List (Int × Int)) (u2 : Tail) (h : AH) : RCall Try.prog n_ref_Consistent [.sl n1 l.length (sms l) u1, .sl n2 c.length (prs c) u2] h (csV l c) := by
  refine RCall.of hm cF_ref_Consistent (by simp [g_ref_Consistent]) fun hw h' hl => ?_
  simp only [F_ref_Consistent, g_ref_Consistent, go_sem, reduceIte, Nat.reduceEqDiff, Nat.reduceAdd, Nat.reduceMul, Nat.reduceSub, reduceCtorEq, Nat.reduceLeDiff, Nat.reduceLT, Int.reduceLT, Int.reduceLE, Int.reduceToNat, Int.reduceAdd, Int.reduceSub, Int.reduceNeg, Int.reduceMul, Int.reduceEq, ← Bool.decide_and, ← Bool.decide_or, ↓tq_n, ↓tq_e, ↓tq_r, ↓bq_n, ↓bq_e, ↓bq_r, ↓rq_n, ↓rq_r, ↓rq_e]
  refine CallG.mk (r_ref_Build n1 l u1 n2 c u2 _) ?_
  by_cases c1 : gaE l c = 0
  case neg =>
    rw [blV_no c1]
    simp only [c1, F_ref_Consistent, g_ref_Consistent, go_sem, reduceIte, Nat.reduceEqDiff, Nat.reduceAdd, Nat.reduceMul, Nat.reduceSub, reduceCtorEq, Nat.reduceLeDiff, Nat.reduceLT, Int.reduceLT, Int.reduceLE, Int.reduceToNat, Int.reduceAdd, Int.reduceSub, Int.reduceNeg, Int.reduceMul, Int.reduceEq, ← Bool.decide_and, ← Bool.decide_or, ↓tq_n, ↓tq_e, ↓tq_r, ↓bq_n, ↓bq_e, ↓bq_r, ↓rq_n, ↓rq_r, ↓rq_e]
    exact ret_ok (by unfold csV; rw [decide_eq_false c1]; rfl)
  rw [blV_yes c1]
  simp only [F_ref_Consistent, g_ref_Consistent, go_sem, reduceIte, Nat.reduceEqDiff, Nat.reduceAdd, Nat.reduceMul, Nat.reduceSub, reduceCtorEq, Nat.reduceLeDiff, Nat.reduceLT, Int.reduceLT, Int.reduceLE, Int.reduceToNat, Int.reduceAdd, Int.reduceSub, Int.reduceNeg, Int.reduceMul, Int.reduceEq, ← Bool.decide_and, ← Bool.decide_or, ↓tq_n, ↓tq_e, ↓tq_r, ↓bq_n, ↓bq_e, ↓bq_r, ↓rq_n, ↓rq_r, ↓rq_e]
  refine CallG.mk (r_ref_Acyclic c1 _ .unk _) ?_
  simp only [F_ref_Consistent, g_ref_Consistent, go_sem, reduceIte, Nat.reduceEqDiff, Nat.reduceAdd, Nat.reduceMul, Nat.reduceSub, reduceCtorEq, Nat.reduceLeDiff, Nat.reduceLT, Int.reduceLT, Int.reduceLE, Int.reduceToNat, Int.reduceAdd, Int.reduceSub, Int.reduceNeg, Int.reduceMul, Int.reduceEq, ← Bool.decide_and, ← Bool.decide_or, ↓tq_n, ↓tq_e, ↓tq_r, ↓bq_n, ↓bq_e, ↓bq_r, ↓rq_n, ↓rq_r, ↓rq_e]
  exact ret_ok (by unfold csV; rw [c1]; rfl)
theorem r_ref_Add (n1 : Bool) (l : List Spm) (u1 : Tail) (n2 : Bool) (c : List (Int × Int)) (u2 : Tail) (x : Int × Int) (hcl : c.length ≤ 1000) (h : AH) : RCall Try.prog n_ref_Add [.sl n1 l.length (sms l) u1, .sl n2 c.length (prs c) u2, .st [I x.1, I x.2]] h (csV l (c ++ [x])) := by
  refine RCall.of hm cF_ref_Add (by simp [g_ref_Add]) fun hw h' hl => ?_
  simp only [F_ref_Add, g_ref_Add, go_sem, reduceIte, Nat.reduceEqDiff, Nat.reduceAdd, Nat.reduceMul, Nat.reduceSub, reduceCtorEq, Nat.reduceLeDiff, Nat.reduceLT, Int.reduceLT, Int.reduceLE, Int.reduceToNat, Int.reduceAdd, Int.reduceSub, Int.reduceNeg, Int.reduceMul, Int.reduceEq, ← Bool.decide_and, ← Bool.decide_or, ↓tq_n, ↓tq_e, ↓tq_r, ↓bq_n, ↓bq_e, ↓bq_r, ↓rq_n, ↓rq_r, ↓rq_e]
  refine ⟨by rw [prs_len], by omega, by omega, TokG.mk fun t ht => ?_⟩
  simp only [F_ref_Add, g_ref_Add, go_sem, reduceIte, Nat.reduceEqDiff, Nat.reduceAdd, Nat.reduceMul, Nat.reduceSub, reduceCtorEq, Nat.reduceLeDiff, Nat.reduceLT, Int.reduceLT, Int.reduceLE, Int.reduceToNat, Int.reduceAdd, Int.reduceSub, Int.reduceNeg, Int.reduceMul, Int.reduceEq, ← Bool.decide_and, ← Bool.decide_or, ↓tq_n, ↓tq_e, ↓tq_r, ↓bq_n, ↓bq_e, ↓bq_r, ↓rq_n, ↓rq_r, ↓rq_e]
  refine ⟨by rw [prs_len], by omega, by omega, ?_⟩
  have e := r_ref_Consistent n1 l u1 (false && decide (c.length = 0) && false) (c ++ [x]) (.tok t) (h'.setTok t (c.length + 1) 2)
  rw [List.length_append, prs_snoc1] at e
  refine CallG.mk e ?_
  unfold csV
  simp only [F_ref_Add, g_ref_Add, go_sem, reduceIte, Nat.reduceEqDiff, Nat.reduceAdd, Nat.reduceMul, Nat.reduceSub, reduceCtorEq, Nat.reduceLeDiff, Nat.reduceLT, Int.reduceLT, Int.reduceLE, Int.reduceToNat, Int.reduceAdd, Int.reduceSub, Int.reduceNeg, Int.reduceMul, Int.reduceEq, ← Bool.decide_and, ← Bool.decide_or, ↓tq_n, ↓tq_e, ↓tq_r, ↓bq_n, ↓bq_e, ↓bq_r, ↓rq_n, ↓rq_r, ↓rq_e]
  exact ret_hb (by repeat' first | exact AH.le.refl _ | assumption | (refine AH.le_put ?_ (by first | assumption | exact (AH.blk_put_ne _ _ (by assumption)).trans (by assumption) | exact AH.none_put (by assumption) | exact AH.none_put (AH.none_put (by assumption)) | (simp only [AH.blk_setTok, AH.tok_put] at *; first | assumption | exact AH.none_put (by assumption)))) | (refine AH.le_setTok ?_ (by first | assumption | exact (AH.blk_put_ne _ _ (by assumption)).trans (by assumption) | exact AH.none_put (by assumption) | exact AH.none_put (AH.none_put (by assumption)) | (simp only [AH.blk_setTok, AH.tok_put] at *; first | assumption | exact AH.none_put (by assumption)))) | (refine AH.le_putM ?_ (by first | assumption | exact (AH.mp_putM_ne _ _ (by assumption)).trans (by assumption) | (simp only [AH.mp_put, AH.mp_setTok] at *; assumption)))) rfl
end Go.Proofs.Ytndcbompcnlhmaa
