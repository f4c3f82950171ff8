/- Greedy coloring, both sides. No condition. -/
import Derived.Test.YticiimmfjdkimaaT0
import Derived.Test.YticiimmfjdkimaaT1
import Derived.Test.YticiimmfjdkimaaV2
import Derived.Test.YticiimmfjdkimaaC7
namespace Go.Proofs.Yticiimmfjdkimaa
open Go Go.Abs
set_option linter.unusedSimpArgs false
set_option linter.unusedVariables false
set_option maxRecDepth 20000

theorem findI_spec {p : Nat → Bool} {n i : Nat} (hi : i < n) (hp : p i = true) : ∃ f : Nat, findI p n = f ∧ f ≤ i ∧ p f = true ∧ ∀ j, j < f → p j = false := by
  have hex : ∃ f, f ≤ i ∧ p f = true ∧ ∀ j, j < f → p j = false := by
    clear hi
    induction i using Nat.strongRecOn with
    | ind i ih =>
      by_cases hj : ∃ j, j < i ∧ p j = true
      · obtain ⟨j, h1, h2⟩ := hj
        obtain ⟨f, a, b⟩ := ih j h1 h2
        exact ⟨f, by omega, b⟩
      · exact ⟨i, Nat.le_refl _, hp, fun j hj' => by
          cases hq : p j with
          | false => rfl
          | true => exact absurd ⟨j, hj', hq⟩ hj⟩
  obtain ⟨f, a, b, c⟩ := hex
  exact ⟨f, findI_at b c (by omega), a, b, c⟩
/-- Two vertices are joined. -/
def jn (e : List (Int × Int)) (u v : Int) : Prop := (min u v, max u v) ∈ e
instance (e : List (Int × Int)) (u v : Int) : Decidable (jn e u v) := by unfold jn; infer_instance
/-- A neighbour of v has color x. -/
def blk (e : List (Int × Int)) (c : List Int) (v : Int) (x : Int) : Bool := (List.range c.length).any fun u => decide (c.getD u 0 = x ∧ jn e u v)
theorem blk_iff {e : List (Int × Int)} {c : List Int} {v x : Int} : blk e c v x = true ↔ ∃ u, u < c.length ∧ c.getD u 0 = x ∧ jn e u v := by
  unfold blk; simp
def fcol (e : List (Int × Int)) (c : List Int) (v : Int) : Int := findI (fun x => !blk e c v x) 13
/-- Greedy coloring: the first i vertices of an order are colored. -/
def grd (e : List (Int × Int)) (l : List Int) (n : Nat) : Nat → List Int
  | 0 => List.replicate n (-1)
  | i + 1 => (grd e l n i).set (l.getD i 0).toNat (fcol e (grd e l n i) (l.getD i 0))
theorem grd_len (e : List (Int × Int)) (l : List Int) (n i : Nat) : (grd e l n i).length = n := by
  induction i with
  | zero => simp [grd]
  | succ i ih => simp [grd, ih]
theorem getD_setI {l : List Int} {i j : Nat} {v : Int} (hi : i < l.length) : (l.set i v).getD j 0 = if i = j then v else l.getD j 0 := by
  simp only [List.getD_eq_getElem?_getD, List.getElem?_set]
  by_cases h : i = j
  · subst h; simp [hi]
  · simp [h]
theorem fcol_spec {e : List (Int × Int)} {c : List Int} {v : Int} {i : Nat} (hc : ∀ u, u < c.length → c.getD u 0 < i) (hi : i ≤ 12) : ∃ f : Nat, fcol e c v = f ∧ f ≤ i ∧ blk e c v f = false ∧ ∀ y : Nat, y < f → blk e c v y = true := by
  have hb : (!blk e c v i) = true := by
    rw [Bool.not_eq_true', Bool.eq_false_iff]
    intro hh
    obtain ⟨u, h1, h2, _⟩ := blk_iff.1 hh
    have := hc u h1
    omega
  obtain ⟨f, h1, h2, h3, h4⟩ := findI_spec (p := fun x => !blk e c v x) (n := 13) (by omega) hb
  exact ⟨f, h1, h2, by simpa using h3, fun y hy => by simpa using h4 y hy⟩
theorem grd_lt {e : List (Int × Int)} {l : List Int} {n : Nat} (hl : ∀ i, i < n → 0 ≤ l.getD i 0 ∧ l.getD i 0 < n) (hn : n ≤ 12) : ∀ i, i ≤ n → ∀ u, u < n → -1 ≤ (grd e l n i).getD u 0 ∧ (grd e l n i).getD u 0 < i := by
  intro i
  induction i with
  | zero => intro _ u hu; simp [grd, List.getD, hu]
  | succ i ih =>
    intro hi u hu
    have ih := ih (by omega)
    have hv := hl i (by omega)
    obtain ⟨f, h1, h2, _⟩ := fcol_spec (e := e) (c := grd e l n i) (v := l.getD i 0) (i := i) (fun u hu => (ih u (by rw [grd_len] at hu; exact hu)).2) (by omega)
    unfold grd
    rw [getD_setI (by rw [grd_len]; omega)]
    split
    · rw [h1]; omega
    · have := ih u hu; omega
theorem any_adj2 {n : Int} {e : List (Int × Int)} (hv : Vd n e) {c : List Int} (hc : (c.length : Int) = n) (v : Int) (x : Int) :
    ((List.range (adj e v).length).any fun i => decide (c.getD ((adj e v).getD i 0).toNat 0 = x)) = blk e c v x := by
  rw [Bool.eq_iff_iff, blk_iff]
  simp only [List.any_eq_true, List.mem_range, decide_eq_true_eq]
  constructor
  · rintro ⟨i, hi, h1⟩
    have hm := mem_getD (d := (0 : Int)) hi
    rw [mem_adj hv] at hm
    rcases hm with hm | hm
    · have hh := vd_mem hv hm
      simp only at hh
      refine ⟨((adj e v).getD i 0).toNat, by omega, h1, ?_⟩
      unfold jn
      rw [show ((((adj e v).getD i 0).toNat : Nat) : Int) = (adj e v).getD i 0 by omega, Int.min_eq_right (by omega), Int.max_eq_left (by omega)]
      exact hm
    · have hh := vd_mem hv hm
      simp only at hh
      refine ⟨((adj e v).getD i 0).toNat, by omega, h1, ?_⟩
      unfold jn
      rw [show ((((adj e v).getD i 0).toNat : Nat) : Int) = (adj e v).getD i 0 by omega, Int.min_eq_left (by omega), Int.max_eq_right (by omega)]
      exact hm
  · rintro ⟨u, hu, h1, h2⟩
    have hm : (u : Int) ∈ adj e v := by
      rw [mem_adj hv]
      unfold jn at h2
      rcases Int.le_total (u : Int) v with h | h
      · rw [Int.min_eq_left h, Int.max_eq_right h] at h2; exact .inr h2
      · rw [Int.min_eq_right h, Int.max_eq_left h] at h2; exact .inl h2
    obtain ⟨j, hj, hje⟩ := List.getElem_of_mem hm
    have hg : (adj e v).getD j 0 = u := by simp [List.getD, hj, hje]
    exact ⟨j, hj, by rw [hg]; simpa using h1⟩
theorem adj_in {n : Int} {e : List (Int × Int)} (hv : Vd n e) {v : Int} {i : Nat} (hi : i < (adj e v).length) : 0 ≤ (adj e v).getD i 0 ∧ (adj e v).getD i 0 < n := by
  have hm := mem_getD (d := (0 : Int)) hi
  rw [mem_adj hv] at hm
  rcases hm with hm | hm
  · have := vd_mem hv hm; simp only at this; omega
  · have := vd_mem hv hm; simp only at this; omega

theorem i64s_set (l : List Int) (i : Nat) (v : Int) : (i64s l).set i (.int .i64 v) = i64s (l.set i v) := by simp [i64s, List.map_set]
theorem le_putdel {h : AH} {b : Nat} {cs : List AV} (hb : h.blk b = none) : h.le ((h.put b cs).del b) := ⟨fun x c e => by
  have hne : x ≠ b := fun hh => by subst hh; rw [hb] at e; cases e
  show (if x = b then none else if x = b then some cs else h.blk x) = some c
  rw [if_neg hne, if_neg hne]; exact e, fun _ _ e => e, fun _ _ e => e⟩
/-- The answer of Greedy. -/
def gV (n : Int) (e : List (Int × Int)) (l : List Int) : AV :=
  if Vd n e then if Prm l n.toNat then .tup [.sl false n.toNat (i64s (grd e l n.toNat n.toNat)) .unk, I 0] else .tup [.sl true 0 [] .full, I 2] else .tup [.sl true 0 [] .full, I 1]

theorem r_ref_Greedy (n : Int) (n1 : Bool) (e : List (Int × Int)) (u1 : Tail) (n2 : Bool) (l : List Int) (u2 : Tail) (h : AH) : RCall Try.prog n_ref_GreedyW [I n, .sl n1 e.length (prs e) u1, .sl n2 l.length (i64s l) u2] h (gV n e l) := by
  refine RCall.of hm cF_ref_GreedyW (by simp [g_ref_GreedyW]) fun hw h' hl => ?_
  unfold gV
  simp only [F_ref_GreedyW, g_ref_GreedyW, go_sem, reduceIte, Nat.reduceEqDiff, Nat.reduceAdd, Nat.reduceMul, Nat.reduceSub, reduceCtorEq, Nat.reduceLeDiff, Nat.reduceLT, Int.reduceLT, Int.reduceLE, Int.reduceToNat, Int.reduceAdd, Int.reduceSub, Int.reduceNeg, Int.reduceMul, Int.reduceEq, ← Bool.decide_and, ← Bool.decide_or, ↓tq_n, ↓tq_e, ↓tq_r, ↓bq_n, ↓bq_e, ↓bq_r, ↓rq_n, ↓rq_r, ↓rq_e]
  refine CallG.mk (r_ref_Valid n1 n e u1 _) ?_
  by_cases hv : Vd n e
  case neg =>
    rw [decide_eq_false hv, if_neg hv]
    simp only [F_ref_GreedyW, g_ref_GreedyW, go_sem, reduceIte, Nat.reduceEqDiff, Nat.reduceAdd, Nat.reduceMul, Nat.reduceSub, reduceCtorEq, Nat.reduceLeDiff, Nat.reduceLT, Int.reduceLT, Int.reduceLE, Int.reduceToNat, Int.reduceAdd, Int.reduceSub, Int.reduceNeg, Int.reduceMul, Int.reduceEq, ← Bool.decide_and, ← Bool.decide_or, ↓tq_n, ↓tq_e, ↓tq_r, ↓bq_n, ↓bq_e, ↓bq_r, ↓rq_n, ↓rq_r, ↓rq_e]
    exact ret_ok rfl
  rw [decide_eq_true hv, if_pos hv]
  have hn0 := hv.1
  have hn12 := hv.2.1
  obtain ⟨N, hN⟩ : ∃ N : Nat, (N : Int) = n := ⟨n.toNat, by omega⟩
  subst hN
  rw [Int.toNat_natCast]
  simp only [F_ref_GreedyW, g_ref_GreedyW, go_sem, reduceIte, Nat.reduceEqDiff, Nat.reduceAdd, Nat.reduceMul, Nat.reduceSub, reduceCtorEq, Nat.reduceLeDiff, Nat.reduceLT, Int.reduceLT, Int.reduceLE, Int.reduceToNat, Int.reduceAdd, Int.reduceSub, Int.reduceNeg, Int.reduceMul, Int.reduceEq, ← Bool.decide_and, ← Bool.decide_or, ↓tq_n, ↓tq_e, ↓tq_r, ↓bq_n, ↓bq_e, ↓bq_r, ↓rq_n, ↓rq_r, ↓rq_e]
  refine CallG.mk (r_base_Order n2 l u2 N _) ?_
  by_cases hp : Prm l N
  case neg =>
    rw [decide_eq_false hp, if_neg hp]
    simp only [F_ref_GreedyW, g_ref_GreedyW, go_sem, reduceIte, Nat.reduceEqDiff, Nat.reduceAdd, Nat.reduceMul, Nat.reduceSub, reduceCtorEq, Nat.reduceLeDiff, Nat.reduceLT, Int.reduceLT, Int.reduceLE, Int.reduceToNat, Int.reduceAdd, Int.reduceSub, Int.reduceNeg, Int.reduceMul, Int.reduceEq, ← Bool.decide_and, ← Bool.decide_or, ↓tq_n, ↓tq_e, ↓tq_r, ↓bq_n, ↓bq_e, ↓bq_r, ↓rq_n, ↓rq_r, ↓rq_e]
    exact ret_ok rfl
  rw [decide_eq_true hp, if_pos hp]
  have hpl := hp.1
  have hpr : ∀ i, i < N → 0 ≤ l.getD i 0 ∧ l.getD i 0 < N := fun i hi => (hp.2 i hi).1
  simp only [F_ref_GreedyW, g_ref_GreedyW, go_sem, reduceIte, Nat.reduceEqDiff, Nat.reduceAdd, Nat.reduceMul, Nat.reduceSub, reduceCtorEq, Nat.reduceLeDiff, Nat.reduceLT, Int.reduceLT, Int.reduceLE, Int.reduceToNat, Int.reduceAdd, Int.reduceSub, Int.reduceNeg, Int.reduceMul, Int.reduceEq, ← Bool.decide_and, ← Bool.decide_or, ↓tq_n, ↓tq_e, ↓tq_r, ↓bq_n, ↓bq_e, ↓bq_r, ↓rq_n, ↓rq_r, ↓rq_e]
  refine MakeG.mk (by omega) (Int.le_refl _) (by omega) (by omega) fun b hb => ?_
  rw [flat_rep, Int.toNat_natCast]
  simp only [F_ref_GreedyW, g_ref_GreedyW, go_sem, reduceIte, Nat.reduceEqDiff, Nat.reduceAdd, Nat.reduceMul, Nat.reduceSub, reduceCtorEq, Nat.reduceLeDiff, Nat.reduceLT, Int.reduceLT, Int.reduceLE, Int.reduceToNat, Int.reduceAdd, Int.reduceSub, Int.reduceNeg, Int.reduceMul, Int.reduceEq, ← Bool.decide_and, ← Bool.decide_or, ↓tq_n, ↓tq_e, ↓tq_r, ↓bq_n, ↓bq_e, ↓bq_r, ↓rq_n, ↓rq_r, ↓rq_e]
  refine awp_loop (fun i : Nat => [(0, I N), (1, .sl n1 e.length (prs e) u1), (2, .sl n2 l.length (i64s l) u2), (8, .msl b 0 N (some N)), (9, I i)]) (fun i => h'.put b (i64s (List.replicate i (-1) ++ List.replicate (N - i) 0))) (fun i => i ≤ N) (fun i => N - i) 0 (Nat.zero_le _) (by simp only [List.replicate_zero, List.nil_append, Nat.sub_zero, i64s, List.map_replicate]; exact (GStep.forget (by repeat' first | exact EnvLe.nil _ | refine EnvLe.cons (AV.le.of_eq rfl) ?_ | refine EnvLe.cons (AV.le.undef _) ?_ | refine EnvLe.cons AV.le.unk ?_) (by repeat' first | exact AH.le.refl _ | assumption | (refine AH.le_put ?_ (by first | assumption | exact (AH.blk_put_ne _ _ (by assumption)).trans (by assumption) | exact AH.none_put (by assumption) | exact AH.none_put (AH.none_put (by assumption)) | (simp only [AH.blk_setTok, AH.tok_put] at *; first | assumption | exact AH.none_put (by assumption)))) | (refine AH.le_setTok ?_ (by first | assumption | exact (AH.blk_put_ne _ _ (by assumption)).trans (by assumption) | exact AH.none_put (by assumption) | exact AH.none_put (AH.none_put (by assumption)) | (simp only [AH.blk_setTok, AH.tok_put] at *; first | assumption | exact AH.none_put (by assumption)))) | (refine AH.le_putM ?_ (by first | assumption | exact (AH.mp_putM_ne _ _ (by assumption)).trans (by assumption) | (simp only [AH.mp_put, AH.mp_setTok] at *; assumption)))))) fun i hi => .of_vg hm ?_
  by_cases h3 : i < N
  · have hc : (i : Int) < (N : Int) := by omega
    have hll : (i64s (List.replicate i (-1 : Int) ++ List.replicate (N - i) 0)).length = N := by rw [i64s_len]; simp; omega
    have e1 : (i64s (List.replicate i (-1 : Int) ++ List.replicate (N - i) 0)).set i (I (-1)) = i64s (List.replicate (i + 1) (-1) ++ List.replicate (N - (i + 1)) 0) := by
      rw [i64s_set]
      congr 1
      rw [show N - i = (N - (i + 1)) + 1 by omega, List.replicate_succ (n := N - (i + 1)), List.set_append_right _ _ (by simp), List.length_replicate, Nat.sub_self, List.set_cons_zero, List.replicate_succ' (n := i), List.append_assoc]
      rfl
    simp only [hc, hll, Nat.mul_one, F_ref_GreedyW, g_ref_GreedyW, go_sem, reduceIte, Nat.reduceEqDiff, Nat.reduceAdd, Nat.reduceMul, Nat.reduceSub, reduceCtorEq, Nat.reduceLeDiff, Nat.reduceLT, Int.reduceLT, Int.reduceLE, Int.reduceToNat, Int.reduceAdd, Int.reduceSub, Int.reduceNeg, Int.reduceMul, Int.reduceEq, ← Bool.decide_and, ← Bool.decide_or, ↓tq_n, ↓tq_e, ↓tq_r, ↓bq_n, ↓bq_e, ↓bq_r, ↓rq_n, ↓rq_r, ↓rq_e]
    refine ⟨by omega, by rw [inR64]; omega, i + 1, by omega, by omega, ?_⟩
    rw [e1]
    exact (GStep.forget (by repeat' first | exact EnvLe.nil _ | refine EnvLe.cons (AV.le.of_eq rfl) ?_ | refine EnvLe.cons (AV.le.undef _) ?_ | refine EnvLe.cons AV.le.unk ?_) (by repeat' first | exact AH.le.refl _ | assumption | (refine AH.le_put ?_ (by first | assumption | exact (AH.blk_put_ne _ _ (by assumption)).trans (by assumption) | exact AH.none_put (by assumption) | exact AH.none_put (AH.none_put (by assumption)) | (simp only [AH.blk_setTok, AH.tok_put] at *; first | assumption | exact AH.none_put (by assumption)))) | (refine AH.le_setTok ?_ (by first | assumption | exact (AH.blk_put_ne _ _ (by assumption)).trans (by assumption) | exact AH.none_put (by assumption) | exact AH.none_put (AH.none_put (by assumption)) | (simp only [AH.blk_setTok, AH.tok_put] at *; first | assumption | exact AH.none_put (by assumption)))) | (refine AH.le_putM ?_ (by first | assumption | exact (AH.mp_putM_ne _ _ (by assumption)).trans (by assumption) | (simp only [AH.mp_put, AH.mp_setTok] at *; assumption)))))
  have h3 : i = N := by omega
  subst h3
  simp only [F_ref_GreedyW, g_ref_GreedyW, go_sem, reduceIte, Nat.reduceEqDiff, Nat.reduceAdd, Nat.reduceMul, Nat.reduceSub, reduceCtorEq, Nat.reduceLeDiff, Nat.reduceLT, Int.reduceLT, Int.reduceLE, Int.reduceToNat, Int.reduceAdd, Int.reduceSub, Int.reduceNeg, Int.reduceMul, Int.reduceEq, ← Bool.decide_and, ← Bool.decide_or, ↓tq_n, ↓tq_e, ↓tq_r, ↓bq_n, ↓bq_e, ↓bq_r, ↓rq_n, ↓rq_r, ↓rq_e]
  refine awp_loop (fun k : Nat => [(0, I i), (1, .sl n1 e.length (prs e) u1), (2, .sl n2 l.length (i64s l) u2), (8, .msl b 0 i (some i)), (10, I k)]) (fun k => h'.put b (i64s (grd e l i k))) (fun k => k ≤ i) (fun k => i - k) 0 (Nat.zero_le _) (by simp only [Nat.sub_self, List.replicate_zero, List.append_nil, grd]; exact (GStep.forget (by repeat' first | exact EnvLe.nil _ | refine EnvLe.cons (AV.le.of_eq rfl) ?_ | refine EnvLe.cons (AV.le.undef _) ?_ | refine EnvLe.cons AV.le.unk ?_) (by repeat' first | exact AH.le.refl _ | assumption | (refine AH.le_put ?_ (by first | assumption | exact (AH.blk_put_ne _ _ (by assumption)).trans (by assumption) | exact AH.none_put (by assumption) | exact AH.none_put (AH.none_put (by assumption)) | (simp only [AH.blk_setTok, AH.tok_put] at *; first | assumption | exact AH.none_put (by assumption)))) | (refine AH.le_setTok ?_ (by first | assumption | exact (AH.blk_put_ne _ _ (by assumption)).trans (by assumption) | exact AH.none_put (by assumption) | exact AH.none_put (AH.none_put (by assumption)) | (simp only [AH.blk_setTok, AH.tok_put] at *; first | assumption | exact AH.none_put (by assumption)))) | (refine AH.le_putM ?_ (by first | assumption | exact (AH.mp_putM_ne _ _ (by assumption)).trans (by assumption) | (simp only [AH.mp_put, AH.mp_setTok] at *; assumption)))))) fun k hk => .of_vg hm ?_
  by_cases h5 : k < i
  · have hc : (k : Int) < (i : Int) := by omega
    have hlt := grd_lt (e := e) hpr (by omega) k hk
    have hgl := grd_len e l i k
    obtain ⟨c, hcd⟩ : ∃ c, c = grd e l i k := ⟨_, rfl⟩
    obtain ⟨v, hvd⟩ : ∃ v, v = l.getD k 0 := ⟨_, rfl⟩
    obtain ⟨f, f1, f2, f3, f4⟩ := fcol_spec (e := e) (c := c) (v := v) (i := k) (fun u hu => by rw [hcd] at hu ⊢; exact (hlt u (by rw [hgl] at hu; exact hu)).2) (by omega)
    have hvr := hpr k h5
    have egr : grd e l i (k + 1) = c.set v.toNat f := by rw [grd, ← hcd, ← hvd, f1]
    rw [← hcd] at hgl hlt ⊢
    rw [← hvd] at hvr
    have hkl : k < l.length := by omega
    have hdk : (i64s l).drop k = I v :: (i64s l).drop (k + 1) := by rw [i64s_drop hkl, hvd]
    have hkc : (k : Int) < (l.length : Int) := by omega
    simp only [hc, F_ref_GreedyW, g_ref_GreedyW, go_sem, reduceIte, Nat.reduceEqDiff, Nat.reduceAdd, Nat.reduceMul, Nat.reduceSub, reduceCtorEq, Nat.reduceLeDiff, Nat.reduceLT, Int.reduceLT, Int.reduceLE, Int.reduceToNat, Int.reduceAdd, Int.reduceSub, Int.reduceNeg, Int.reduceMul, Int.reduceEq, ← Bool.decide_and, ← Bool.decide_or, ↓tq_n, ↓tq_e, ↓tq_r, ↓bq_n, ↓bq_e, ↓bq_r, ↓rq_n, ↓rq_r, ↓rq_e]
    refine awp_loop (α := Nat × Nat) (fun p => [(0, I i), (1, .sl n1 e.length (prs e) u1), (2, .sl n2 l.length (i64s l) u2), (8, .msl b 0 i (some i)), (10, I k), (11, I p.2), (12, I p.1)]) (fun _ => h'.put b (i64s c)) (fun p => p.1 ≤ i ∧ p.2 ≤ f ∧ min p.1 f ≤ p.2) (fun p => i - p.1) (0, 0) ⟨Nat.zero_le _, Nat.zero_le _, by simp⟩ (GStep.forget (by repeat' first | exact EnvLe.nil _ | refine EnvLe.cons (AV.le.of_eq rfl) ?_ | refine EnvLe.cons (AV.le.undef _) ?_ | refine EnvLe.cons AV.le.unk ?_) (by repeat' first | exact AH.le.refl _ | assumption | (refine AH.le_put ?_ (by first | assumption | exact (AH.blk_put_ne _ _ (by assumption)).trans (by assumption) | exact AH.none_put (by assumption) | exact AH.none_put (AH.none_put (by assumption)) | (simp only [AH.blk_setTok, AH.tok_put] at *; first | assumption | exact AH.none_put (by assumption)))) | (refine AH.le_setTok ?_ (by first | assumption | exact (AH.blk_put_ne _ _ (by assumption)).trans (by assumption) | exact AH.none_put (by assumption) | exact AH.none_put (AH.none_put (by assumption)) | (simp only [AH.blk_setTok, AH.tok_put] at *; first | assumption | exact AH.none_put (by assumption)))) | (refine AH.le_putM ?_ (by first | assumption | exact (AH.mp_putM_ne _ _ (by assumption)).trans (by assumption) | (simp only [AH.mp_put, AH.mp_setTok] at *; assumption))))) fun p hp2 => .of_vg hm ?_
    obtain ⟨q, x0⟩ := p
    obtain ⟨q1, q2, q3⟩ := hp2
    simp only at q1 q2 q3 ⊢
    by_cases h6 : q < i
    · have hcq : (q : Int) < (i : Int) := by omega
      simp only [hcq, F_ref_GreedyW, g_ref_GreedyW, go_sem, reduceIte, Nat.reduceEqDiff, Nat.reduceAdd, Nat.reduceMul, Nat.reduceSub, reduceCtorEq, Nat.reduceLeDiff, Nat.reduceLT, Int.reduceLT, Int.reduceLE, Int.reduceToNat, Int.reduceAdd, Int.reduceSub, Int.reduceNeg, Int.reduceMul, Int.reduceEq, ← Bool.decide_and, ← Bool.decide_or, ↓tq_n, ↓tq_e, ↓tq_r, ↓bq_n, ↓bq_e, ↓bq_r, ↓rq_n, ↓rq_r, ↓rq_e]
      refine awp_loop (α := Nat × Nat) (fun p => [(0, I i), (1, .sl n1 e.length (prs e) u1), (2, .sl n2 l.length (i64s l) u2), (8, .msl b 0 i (some i)), (10, I k), (11, I p.2), (12, I q), (13, I p.1)]) (fun _ => h'.put b (i64s c)) (fun p => p.1 ≤ i ∧ x0 ≤ p.2 ∧ p.2 ≤ f ∧ (p.2 = x0 → ∀ j, j < p.1 → ¬ (c.getD j 0 = x0 ∧ jn e j v))) (fun p => i - p.1) (0, x0) ⟨Nat.zero_le _, Nat.le_refl _, q2, fun _ j hj => absurd hj (Nat.not_lt_zero _)⟩ (GStep.forget (by repeat' first | exact EnvLe.nil _ | refine EnvLe.cons (AV.le.of_eq rfl) ?_ | refine EnvLe.cons (AV.le.undef _) ?_ | refine EnvLe.cons AV.le.unk ?_) (by repeat' first | exact AH.le.refl _ | assumption | (refine AH.le_put ?_ (by first | assumption | exact (AH.blk_put_ne _ _ (by assumption)).trans (by assumption) | exact AH.none_put (by assumption) | exact AH.none_put (AH.none_put (by assumption)) | (simp only [AH.blk_setTok, AH.tok_put] at *; first | assumption | exact AH.none_put (by assumption)))) | (refine AH.le_setTok ?_ (by first | assumption | exact (AH.blk_put_ne _ _ (by assumption)).trans (by assumption) | exact AH.none_put (by assumption) | exact AH.none_put (AH.none_put (by assumption)) | (simp only [AH.blk_setTok, AH.tok_put] at *; first | assumption | exact AH.none_put (by assumption)))) | (refine AH.le_putM ?_ (by first | assumption | exact (AH.mp_putM_ne _ _ (by assumption)).trans (by assumption) | (simp only [AH.mp_put, AH.mp_setTok] at *; assumption))))) fun p hp3 => .of_vg hm ?_
      obtain ⟨j, x⟩ := p
      obtain ⟨j1, j2, j3, j4⟩ := hp3
      simp only at j1 j2 j3 j4 ⊢
      by_cases h7 : j < i
      · have hcj : (j : Int) < (i : Int) := by omega
        have hjl : j < c.length := by omega
        by_cases h8 : c.getD j 0 = (x : Int)
        · have h8' : decide (c.getD j 0 = (x : Int)) = true := decide_eq_true h8
          simp only [hcj, i64s_drop hjl, h8', hkc, hdk, F_ref_GreedyW, g_ref_GreedyW, go_sem, reduceIte, Nat.reduceEqDiff, Nat.reduceAdd, Nat.reduceMul, Nat.reduceSub, reduceCtorEq, Nat.reduceLeDiff, Nat.reduceLT, Int.reduceLT, Int.reduceLE, Int.reduceToNat, Int.reduceAdd, Int.reduceSub, Int.reduceNeg, Int.reduceMul, Int.reduceEq, ← Bool.decide_and, ← Bool.decide_or, ↓tq_n, ↓tq_e, ↓tq_r, ↓bq_n, ↓bq_e, ↓bq_r, ↓rq_n, ↓rq_r, ↓rq_e]
          refine CallG.mk (r_ref_joined n1 e u1 j v _) ?_
          by_cases h9 : jn e j v
          · have hb9 : (min (j : Int) v, max (j : Int) v) ∈ e := h9
            rw [decide_eq_true hb9]
            have hxf : x < f := by
              rcases Nat.lt_or_ge x f with hh | hh
              · exact hh
              · have : x = f := by omega
                subst this
                rw [Bool.eq_false_iff] at f3
                exact absurd (blk_iff.2 ⟨j, hjl, h8, h9⟩) f3
            simp only [F_ref_GreedyW, g_ref_GreedyW, go_sem, reduceIte, Nat.reduceEqDiff, Nat.reduceAdd, Nat.reduceMul, Nat.reduceSub, reduceCtorEq, Nat.reduceLeDiff, Nat.reduceLT, Int.reduceLT, Int.reduceLE, Int.reduceToNat, Int.reduceAdd, Int.reduceSub, Int.reduceNeg, Int.reduceMul, Int.reduceEq, ← Bool.decide_and, ← Bool.decide_or, ↓tq_n, ↓tq_e, ↓tq_r, ↓bq_n, ↓bq_e, ↓bq_r, ↓rq_n, ↓rq_r, ↓rq_e]
            exact ⟨by rw [inR64]; omega, by rw [inR64]; omega, (j + 1, x + 1), ⟨by simp only; omega, by simp only; omega, by simp only; omega, fun hh => by simp only at hh; omega⟩, by simp only; omega, (GStep.forget (by repeat' first | exact EnvLe.nil _ | refine EnvLe.cons (AV.le.of_eq rfl) ?_ | refine EnvLe.cons (AV.le.undef _) ?_ | refine EnvLe.cons AV.le.unk ?_) (by repeat' first | exact AH.le.refl _ | assumption | (refine AH.le_put ?_ (by first | assumption | exact (AH.blk_put_ne _ _ (by assumption)).trans (by assumption) | exact AH.none_put (by assumption) | exact AH.none_put (AH.none_put (by assumption)) | (simp only [AH.blk_setTok, AH.tok_put] at *; first | assumption | exact AH.none_put (by assumption)))) | (refine AH.le_setTok ?_ (by first | assumption | exact (AH.blk_put_ne _ _ (by assumption)).trans (by assumption) | exact AH.none_put (by assumption) | exact AH.none_put (AH.none_put (by assumption)) | (simp only [AH.blk_setTok, AH.tok_put] at *; first | assumption | exact AH.none_put (by assumption)))) | (refine AH.le_putM ?_ (by first | assumption | exact (AH.mp_putM_ne _ _ (by assumption)).trans (by assumption) | (simp only [AH.mp_put, AH.mp_setTok] at *; assumption)))))⟩
          · have hb9 : (min (j : Int) v, max (j : Int) v) ∉ e := h9
            rw [decide_eq_false hb9]
            simp only [F_ref_GreedyW, g_ref_GreedyW, go_sem, reduceIte, Nat.reduceEqDiff, Nat.reduceAdd, Nat.reduceMul, Nat.reduceSub, reduceCtorEq, Nat.reduceLeDiff, Nat.reduceLT, Int.reduceLT, Int.reduceLE, Int.reduceToNat, Int.reduceAdd, Int.reduceSub, Int.reduceNeg, Int.reduceMul, Int.reduceEq, ← Bool.decide_and, ← Bool.decide_or, ↓tq_n, ↓tq_e, ↓tq_r, ↓bq_n, ↓bq_e, ↓bq_r, ↓rq_n, ↓rq_r, ↓rq_e]
            exact ⟨by rw [inR64]; omega, (j + 1, x), ⟨by simp only; omega, j2, j3, fun hh => all_succ (j4 hh) (fun hq => h9 hq.2)⟩, by simp only; omega, (GStep.forget (by repeat' first | exact EnvLe.nil _ | refine EnvLe.cons (AV.le.of_eq rfl) ?_ | refine EnvLe.cons (AV.le.undef _) ?_ | refine EnvLe.cons AV.le.unk ?_) (by repeat' first | exact AH.le.refl _ | assumption | (refine AH.le_put ?_ (by first | assumption | exact (AH.blk_put_ne _ _ (by assumption)).trans (by assumption) | exact AH.none_put (by assumption) | exact AH.none_put (AH.none_put (by assumption)) | (simp only [AH.blk_setTok, AH.tok_put] at *; first | assumption | exact AH.none_put (by assumption)))) | (refine AH.le_setTok ?_ (by first | assumption | exact (AH.blk_put_ne _ _ (by assumption)).trans (by assumption) | exact AH.none_put (by assumption) | exact AH.none_put (AH.none_put (by assumption)) | (simp only [AH.blk_setTok, AH.tok_put] at *; first | assumption | exact AH.none_put (by assumption)))) | (refine AH.le_putM ?_ (by first | assumption | exact (AH.mp_putM_ne _ _ (by assumption)).trans (by assumption) | (simp only [AH.mp_put, AH.mp_setTok] at *; assumption)))))⟩
        · have h8' : decide (c.getD j 0 = (x : Int)) = false := decide_eq_false h8
          simp only [hcj, i64s_drop hjl, h8', F_ref_GreedyW, g_ref_GreedyW, go_sem, reduceIte, Nat.reduceEqDiff, Nat.reduceAdd, Nat.reduceMul, Nat.reduceSub, reduceCtorEq, Nat.reduceLeDiff, Nat.reduceLT, Int.reduceLT, Int.reduceLE, Int.reduceToNat, Int.reduceAdd, Int.reduceSub, Int.reduceNeg, Int.reduceMul, Int.reduceEq, ← Bool.decide_and, ← Bool.decide_or, ↓tq_n, ↓tq_e, ↓tq_r, ↓bq_n, ↓bq_e, ↓bq_r, ↓rq_n, ↓rq_r, ↓rq_e]
          exact ⟨by rw [inR64]; omega, (j + 1, x), ⟨by simp only; omega, j2, j3, fun hh => all_succ (j4 hh) (fun hq => h8 (by rw [hq.1]; simp only at hh; omega))⟩, by simp only; omega, (GStep.forget (by repeat' first | exact EnvLe.nil _ | refine EnvLe.cons (AV.le.of_eq rfl) ?_ | refine EnvLe.cons (AV.le.undef _) ?_ | refine EnvLe.cons AV.le.unk ?_) (by repeat' first | exact AH.le.refl _ | assumption | (refine AH.le_put ?_ (by first | assumption | exact (AH.blk_put_ne _ _ (by assumption)).trans (by assumption) | exact AH.none_put (by assumption) | exact AH.none_put (AH.none_put (by assumption)) | (simp only [AH.blk_setTok, AH.tok_put] at *; first | assumption | exact AH.none_put (by assumption)))) | (refine AH.le_setTok ?_ (by first | assumption | exact (AH.blk_put_ne _ _ (by assumption)).trans (by assumption) | exact AH.none_put (by assumption) | exact AH.none_put (AH.none_put (by assumption)) | (simp only [AH.blk_setTok, AH.tok_put] at *; first | assumption | exact AH.none_put (by assumption)))) | (refine AH.le_putM ?_ (by first | assumption | exact (AH.mp_putM_ne _ _ (by assumption)).trans (by assumption) | (simp only [AH.mp_put, AH.mp_setTok] at *; assumption)))))⟩
      have h7 : j = i := by omega
      subst h7
      simp only [F_ref_GreedyW, g_ref_GreedyW, go_sem, reduceIte, Nat.reduceEqDiff, Nat.reduceAdd, Nat.reduceMul, Nat.reduceSub, reduceCtorEq, Nat.reduceLeDiff, Nat.reduceLT, Int.reduceLT, Int.reduceLE, Int.reduceToNat, Int.reduceAdd, Int.reduceSub, Int.reduceNeg, Int.reduceMul, Int.reduceEq, ← Bool.decide_and, ← Bool.decide_or, ↓tq_n, ↓tq_e, ↓tq_r, ↓bq_n, ↓bq_e, ↓bq_r, ↓rq_n, ↓rq_r, ↓rq_e]
      refine ⟨by rw [inR64]; omega, (q + 1, x), ⟨by simp only; omega, j3, ?_⟩, by simp only; omega, (GStep.forget (by repeat' first | exact EnvLe.nil _ | refine EnvLe.cons (AV.le.of_eq rfl) ?_ | refine EnvLe.cons (AV.le.undef _) ?_ | refine EnvLe.cons AV.le.unk ?_) (by repeat' first | exact AH.le.refl _ | assumption | (refine AH.le_put ?_ (by first | assumption | exact (AH.blk_put_ne _ _ (by assumption)).trans (by assumption) | exact AH.none_put (by assumption) | exact AH.none_put (AH.none_put (by assumption)) | (simp only [AH.blk_setTok, AH.tok_put] at *; first | assumption | exact AH.none_put (by assumption)))) | (refine AH.le_setTok ?_ (by first | assumption | exact (AH.blk_put_ne _ _ (by assumption)).trans (by assumption) | exact AH.none_put (by assumption) | exact AH.none_put (AH.none_put (by assumption)) | (simp only [AH.blk_setTok, AH.tok_put] at *; first | assumption | exact AH.none_put (by assumption)))) | (refine AH.le_putM ?_ (by first | assumption | exact (AH.mp_putM_ne _ _ (by assumption)).trans (by assumption) | (simp only [AH.mp_put, AH.mp_setTok] at *; assumption)))))⟩
      simp only
      by_cases hx : x = x0
      · have hnb : blk e c v x0 = false := Bool.eq_false_iff.2 fun hh => by
          obtain ⟨u, a1, a2, a3⟩ := blk_iff.1 hh
          exact j4 hx u (by omega) ⟨a2, a3⟩
        have : f ≤ x0 := by
          rcases Nat.lt_or_ge x0 f with hh | hh
          · have := f4 x0 hh; rw [hnb] at this; cases this
          · exact hh
        omega
      · omega
    have h6 : q = i := by omega
    subst h6
    have hxf : x0 = f := by omega
    subst hxf
    have hvl : v < (q : Int) := by omega
    have e2 : (i64s c).set v.toNat (I x0) = i64s (c.set v.toNat x0) := i64s_set _ _ _
    simp only [hkc, hdk, hvr.1, hvl, i64s_len, hgl, Nat.mul_one, F_ref_GreedyW, g_ref_GreedyW, go_sem, reduceIte, Nat.reduceEqDiff, Nat.reduceAdd, Nat.reduceMul, Nat.reduceSub, reduceCtorEq, Nat.reduceLeDiff, Nat.reduceLT, Int.reduceLT, Int.reduceLE, Int.reduceToNat, Int.reduceAdd, Int.reduceSub, Int.reduceNeg, Int.reduceMul, Int.reduceEq, ← Bool.decide_and, ← Bool.decide_or, ↓tq_n, ↓tq_e, ↓tq_r, ↓bq_n, ↓bq_e, ↓bq_r, ↓rq_n, ↓rq_r, ↓rq_e]
    refine ⟨by omega, by rw [inR64]; omega, k + 1, by omega, by omega, ?_⟩
    rw [e2, egr]
    exact (GStep.forget (by repeat' first | exact EnvLe.nil _ | refine EnvLe.cons (AV.le.of_eq rfl) ?_ | refine EnvLe.cons (AV.le.undef _) ?_ | refine EnvLe.cons AV.le.unk ?_) (by repeat' first | exact AH.le.refl _ | assumption | (refine AH.le_put ?_ (by first | assumption | exact (AH.blk_put_ne _ _ (by assumption)).trans (by assumption) | exact AH.none_put (by assumption) | exact AH.none_put (AH.none_put (by assumption)) | (simp only [AH.blk_setTok, AH.tok_put] at *; first | assumption | exact AH.none_put (by assumption)))) | (refine AH.le_setTok ?_ (by first | assumption | exact (AH.blk_put_ne _ _ (by assumption)).trans (by assumption) | exact AH.none_put (by assumption) | exact AH.none_put (AH.none_put (by assumption)) | (simp only [AH.blk_setTok, AH.tok_put] at *; first | assumption | exact AH.none_put (by assumption)))) | (refine AH.le_putM ?_ (by first | assumption | exact (AH.mp_putM_ne _ _ (by assumption)).trans (by assumption) | (simp only [AH.mp_put, AH.mp_setTok] at *; assumption)))))
  have h5 : k = i := by omega
  subst h5
  simp only [F_ref_GreedyW, g_ref_GreedyW, go_sem, reduceIte, Nat.reduceEqDiff, Nat.reduceAdd, Nat.reduceMul, Nat.reduceSub, reduceCtorEq, Nat.reduceLeDiff, Nat.reduceLT, Int.reduceLT, Int.reduceLE, Int.reduceToNat, Int.reduceAdd, Int.reduceSub, Int.reduceNeg, Int.reduceMul, Int.reduceEq, ← Bool.decide_and, ← Bool.decide_or, ↓tq_n, ↓tq_e, ↓tq_r, ↓bq_n, ↓bq_e, ↓bq_r, ↓rq_n, ↓rq_r, ↓rq_e]
  have := RGh.fix (n := k) (cap := some k) (AH.blk_put h' b (i64s (grd e l k k))) 1
  rw [Nat.mul_one, List.take_of_length_le (by rw [i64s_len, grd_len]; exact Nat.le_refl _)] at this
  exact ⟨_, h', (@RGh.tupAt [] [I 0] _ _ _ _ this).trans (RGh.forget (AV.le.refl _) (le_putdel hb)), rfl, rfl⟩

theorem r_slices_Values (nl : Bool) (l : List Int) (tl : Tail) (h : AH) : RCall Try.prog n_slices_Values_intX [.sl nl l.length (i64s l) tl] h (.fn 65 [.sptr [.sl nl l.length (i64s l) tl]]) := by
  refine RCall.of hm cF_slices_Values_intX (by simp [g_slices_Values_intX]) fun hw h' hl => ?_
  simp only [F_slices_Values_intX, g_slices_Values_intX, go_sem, reduceIte, Nat.reduceEqDiff, Nat.reduceAdd, Nat.reduceMul, Nat.reduceSub, reduceCtorEq, Nat.reduceLeDiff, Nat.reduceLT, Int.reduceLT, Int.reduceLE, Int.reduceToNat, Int.reduceAdd, Int.reduceSub, Int.reduceNeg, Int.reduceMul, Int.reduceEq, ← Bool.decide_and, ← Bool.decide_or, ↓tq_n, ↓tq_e, ↓tq_r, ↓bq_n, ↓bq_e, ↓bq_r, ↓rq_n, ↓rq_r, ↓rq_e]
  exact ret_ok rfl
theorem r_coloring_Greedy_1 (u x : Int) (c : List Int) (N b b15 : Nat) (h : AH) (hN : c.length = N) (hb : h.blk b = some (i64s c)) (h15 : h.blk b15 = some [I x]) (hu : 0 ≤ u ∧ u < N) :
    RCall Try.prog n_coloring_Greedy_1W [I u, .sptr [.msl b 0 N (some N)], .ptr b15 0] h (.bool (decide (c.getD u.toNat 0 = x))) := by
  refine RCall.of hm cF_coloring_Greedy_1W (by simp [g_coloring_Greedy_1W]) fun hw h' hl => ?_
  have kb := hl.1 _ _ hb
  have k15 := hl.1 _ _ h15
  have hd : u.toNat < c.length := by omega
  simp only [kb, k15, hu.1, hu.2, i64s_drop hd, Nat.mul_one, F_coloring_Greedy_1W, g_coloring_Greedy_1W, go_sem, reduceIte, Nat.reduceEqDiff, Nat.reduceAdd, Nat.reduceMul, Nat.reduceSub, reduceCtorEq, Nat.reduceLeDiff, Nat.reduceLT, Int.reduceLT, Int.reduceLE, Int.reduceToNat, Int.reduceAdd, Int.reduceSub, Int.reduceNeg, Int.reduceMul, Int.reduceEq, ← Bool.decide_and, ← Bool.decide_or, ↓tq_n, ↓tq_e, ↓tq_r, ↓bq_n, ↓bq_e, ↓bq_r, ↓rq_n, ↓rq_r, ↓rq_e]
  exact ret_ok rfl
theorem srt_asc {l : List Int} (h : l.Nodup) : (srt l).Pairwise (· < ·) := by
  have h1 := srt_sorted l
  have h2 : (srt l).Pairwise (· ≠ ·) := (srt_perm l).nodup_iff.2 h
  exact (h1.and h2).imp fun hh => by omega
theorem prm_srt {l : List Int} {n : Nat} : Prm l n ↔ l.length = n ∧ ∀ j, j < n → (srt l).getD j 0 = j := by
  constructor
  · rintro ⟨h1, h2⟩
    refine ⟨h1, ?_⟩
    have hnd : l.Nodup := by
      rw [List.nodup_iff_pairwise_ne, List.pairwise_iff_getElem]
      intro i j hi hj hij hh
      have := (h2 j (by omega)).2 i hij
      simp only [List.getD_eq_getElem?_getD, List.getElem?_eq_getElem hi, List.getElem?_eq_getElem hj, Option.getD_some] at this
      exact this hh.symm
    have hasc := srt_asc hnd
    have hl := srt_len l
    have hr : ∀ j, j < n → 0 ≤ (srt l).getD j 0 ∧ (srt l).getD j 0 < n := fun j hj => by
      have hm := (srt_perm l).mem_iff.1 (mem_getD (d := (0 : Int)) (show j < (srt l).length by omega))
      obtain ⟨k, hk, hk2⟩ := List.getElem_of_mem hm
      have := (h2 k (by omega)).1
      simp only [List.getD_eq_getElem?_getD, List.getElem?_eq_getElem hk, Option.getD_some] at this
      rw [hk2] at this
      exact this
    have hst : ∀ j, j + 1 < n → (srt l).getD j 0 < (srt l).getD (j + 1) 0 := fun j hj => by
      have := List.pairwise_iff_getElem.1 hasc j (j + 1) (by omega) (by omega) (by omega)
      simp only [List.getD_eq_getElem?_getD, List.getElem?_eq_getElem (show j < (srt l).length by omega), List.getElem?_eq_getElem (show j + 1 < (srt l).length by omega), Option.getD_some]
      exact this
    have hlo : ∀ j, j < n → (j : Int) ≤ (srt l).getD j 0 := by
      intro j
      induction j with
      | zero => intro hj; have := (hr 0 hj).1; omega
      | succ j ih => intro hj; have := ih (by omega); have := hst j hj; omega
    have hhi : ∀ d j, j + d + 1 = n → (srt l).getD j 0 ≤ j := by
      intro d
      induction d with
      | zero => intro j hj; have := (hr j (by omega)).2; omega
      | succ d ih => intro j hj; have := ih (j + 1) (by omega); have := hst j (by omega); omega
    intro j hj
    have := hlo j hj
    have := hhi (n - 1 - j) j (by omega)
    omega
  · rintro ⟨h1, h2⟩
    have hl := srt_len l
    have hes : srt l = (List.range n).map fun (j : Nat) => (j : Int) := by
      refine List.ext_getElem (by simp; omega) fun j k1 k2 => ?_
      have hj : j < n := by simpa using k2
      have := h2 j hj
      simp only [List.getD_eq_getElem?_getD, List.getElem?_eq_getElem k1, Option.getD_some] at this
      simp [this]
    have hnd : l.Nodup := by
      rw [← (srt_perm l).nodup_iff, hes]
      refine List.pairwise_map.2 ((List.nodup_range (n := n)).imp fun hh => ?_)
      omega
    refine ⟨h1, fun i hi => ⟨?_, fun k hk hh => ?_⟩⟩
    · have hm := (srt_perm l).mem_iff.2 (mem_getD (d := (0 : Int)) (show i < l.length by omega))
      rw [hes, List.mem_map] at hm
      obtain ⟨j, hj, hj2⟩ := hm
      rw [List.mem_range] at hj
      omega
    · have hi2 : i < l.length := by omega
      have hk2 : k < l.length := by omega
      simp only [List.getD_eq_getElem?_getD, List.getElem?_eq_getElem hi2, List.getElem?_eq_getElem hk2, Option.getD_some] at hh
      have := (List.getElem_inj hnd).1 hh
      omega
theorem r_coloring_Greedy (n : Int) (n1 : Bool) (e : List (Int × Int)) (u1 : Tail) (n2 : Bool) (l : List Int) (u2 : Tail) (hll : l.length ≤ 1000000) (h : AH) : RCall Try.prog n_coloring_GreedyW [I n, .sl n1 e.length (prs e) u1, .sl n2 l.length (i64s l) u2] h (gV n e l) := by
  refine RCall.of hm cF_coloring_GreedyW (by simp [g_coloring_GreedyW]) fun hw h' hl => ?_
  have hz := wf_i64s (hw _ (.tail _ (.tail _ (.head _))))
  unfold gV
  simp only [F_coloring_GreedyW, g_coloring_GreedyW, go_sem, reduceIte, Nat.reduceEqDiff, Nat.reduceAdd, Nat.reduceMul, Nat.reduceSub, reduceCtorEq, Nat.reduceLeDiff, Nat.reduceLT, Int.reduceLT, Int.reduceLE, Int.reduceToNat, Int.reduceAdd, Int.reduceSub, Int.reduceNeg, Int.reduceMul, Int.reduceEq, ← Bool.decide_and, ← Bool.decide_or, ↓tq_n, ↓tq_e, ↓tq_r, ↓bq_n, ↓bq_e, ↓bq_r, ↓rq_n, ↓rq_r, ↓rq_e]
  refine CallG.mk (r_coloring_Valid n1 n e u1 _) ?_
  by_cases hv : Vd n e
  case neg =>
    rw [decide_eq_false hv, if_neg hv]
    simp only [F_coloring_GreedyW, g_coloring_GreedyW, go_sem, reduceIte, Nat.reduceEqDiff, Nat.reduceAdd, Nat.reduceMul, Nat.reduceSub, reduceCtorEq, Nat.reduceLeDiff, Nat.reduceLT, Int.reduceLT, Int.reduceLE, Int.reduceToNat, Int.reduceAdd, Int.reduceSub, Int.reduceNeg, Int.reduceMul, Int.reduceEq, ← Bool.decide_and, ← Bool.decide_or, ↓tq_n, ↓tq_e, ↓tq_r, ↓bq_n, ↓bq_e, ↓bq_r, ↓rq_n, ↓rq_r, ↓rq_e]
    exact ret_ok rfl
  rw [decide_eq_true hv, if_pos hv]
  have hn0 := hv.1
  have hn12 := hv.2.1
  obtain ⟨N, hN⟩ : ∃ N : Nat, (N : Int) = n := ⟨n.toNat, by omega⟩
  subst hN
  rw [Int.toNat_natCast]
  simp only [F_coloring_GreedyW, g_coloring_GreedyW, go_sem, reduceIte, Nat.reduceEqDiff, Nat.reduceAdd, Nat.reduceMul, Nat.reduceSub, reduceCtorEq, Nat.reduceLeDiff, Nat.reduceLT, Int.reduceLT, Int.reduceLE, Int.reduceToNat, Int.reduceAdd, Int.reduceSub, Int.reduceNeg, Int.reduceMul, Int.reduceEq, ← Bool.decide_and, ← Bool.decide_or, ↓tq_n, ↓tq_e, ↓tq_r, ↓bq_n, ↓bq_e, ↓bq_r, ↓rq_n, ↓rq_r, ↓rq_e]
  refine CallG.mk (r_slices_Values n2 l u2 _) ?_
  simp only [F_coloring_GreedyW, g_coloring_GreedyW, go_sem, reduceIte, Nat.reduceEqDiff, Nat.reduceAdd, Nat.reduceMul, Nat.reduceSub, reduceCtorEq, Nat.reduceLeDiff, Nat.reduceLT, Int.reduceLT, Int.reduceLE, Int.reduceToNat, Int.reduceAdd, Int.reduceSub, Int.reduceNeg, Int.reduceMul, Int.reduceEq, ← Bool.decide_and, ← Bool.decide_or, ↓tq_n, ↓tq_e, ↓tq_r, ↓bq_n, ↓bq_e, ↓bq_r, ↓rq_n, ↓rq_r, ↓rq_e]
  refine CallG.mk (r_slices_Sorted n2 l u2 hz hll _) ?_
  have hsl := srt_len l
  simp only [F_coloring_GreedyW, g_coloring_GreedyW, go_sem, reduceIte, Nat.reduceEqDiff, Nat.reduceAdd, Nat.reduceMul, Nat.reduceSub, reduceCtorEq, Nat.reduceLeDiff, Nat.reduceLT, Int.reduceLT, Int.reduceLE, Int.reduceToNat, Int.reduceAdd, Int.reduceSub, Int.reduceNeg, Int.reduceMul, Int.reduceEq, ← Bool.decide_and, ← Bool.decide_or, ↓tq_n, ↓tq_e, ↓tq_r, ↓bq_n, ↓bq_e, ↓bq_r, ↓rq_n, ↓rq_r, ↓rq_e]
  refine awp_loop (fun i : Nat => [(0, I N), (1, .sl n1 e.length (prs e) u1), (2, .sl n2 l.length (i64s l) u2), (23, .sl (decide (srt l = [])) (srt l).length (i64s (srt l)) .unk), (24, I (srt l).length), (25, I i)]) (fun _ => h') (fun i => i ≤ l.length ∧ ∀ j, j < i → (srt l).getD j 0 = j) (fun i => l.length - i) 0 ⟨Nat.zero_le _, fun j hj => absurd hj (Nat.not_lt_zero _)⟩ (GStep.forget (by repeat' first | exact EnvLe.nil _ | refine EnvLe.cons (AV.le.of_eq rfl) ?_ | refine EnvLe.cons (AV.le.undef _) ?_ | refine EnvLe.cons AV.le.unk ?_) (by repeat' first | exact AH.le.refl _ | assumption | (refine AH.le_put ?_ (by first | assumption | exact (AH.blk_put_ne _ _ (by assumption)).trans (by assumption) | exact AH.none_put (by assumption) | exact AH.none_put (AH.none_put (by assumption)) | (simp only [AH.blk_setTok, AH.tok_put] at *; first | assumption | exact AH.none_put (by assumption)))) | (refine AH.le_setTok ?_ (by first | assumption | exact (AH.blk_put_ne _ _ (by assumption)).trans (by assumption) | exact AH.none_put (by assumption) | exact AH.none_put (AH.none_put (by assumption)) | (simp only [AH.blk_setTok, AH.tok_put] at *; first | assumption | exact AH.none_put (by assumption)))) | (refine AH.le_putM ?_ (by first | assumption | exact (AH.mp_putM_ne _ _ (by assumption)).trans (by assumption) | (simp only [AH.mp_put, AH.mp_setTok] at *; assumption))))) fun i hi => .of_vg hm ?_
  obtain ⟨i1, i2⟩ := hi
  by_cases h3 : i < l.length
  · have hc : (i : Int) < ((srt l).length : Int) := by omega
    have hi3 : i < (srt l).length := by omega
    simp only [hc, i64s_drop hi3, F_coloring_GreedyW, g_coloring_GreedyW, go_sem, reduceIte, Nat.reduceEqDiff, Nat.reduceAdd, Nat.reduceMul, Nat.reduceSub, reduceCtorEq, Nat.reduceLeDiff, Nat.reduceLT, Int.reduceLT, Int.reduceLE, Int.reduceToNat, Int.reduceAdd, Int.reduceSub, Int.reduceNeg, Int.reduceMul, Int.reduceEq, ← Bool.decide_and, ← Bool.decide_or, ↓tq_n, ↓tq_e, ↓tq_r, ↓bq_n, ↓bq_e, ↓bq_r, ↓rq_n, ↓rq_r, ↓rq_e]
    refine ⟨fun h4 => ?_, fun h4 => ⟨by rw [inR64]; omega, i + 1, ⟨by omega, all_succ i2 h4⟩, by omega, (GStep.forget (by repeat' first | exact EnvLe.nil _ | refine EnvLe.cons (AV.le.of_eq rfl) ?_ | refine EnvLe.cons (AV.le.undef _) ?_ | refine EnvLe.cons AV.le.unk ?_) (by repeat' first | exact AH.le.refl _ | assumption | (refine AH.le_put ?_ (by first | assumption | exact (AH.blk_put_ne _ _ (by assumption)).trans (by assumption) | exact AH.none_put (by assumption) | exact AH.none_put (AH.none_put (by assumption)) | (simp only [AH.blk_setTok, AH.tok_put] at *; first | assumption | exact AH.none_put (by assumption)))) | (refine AH.le_setTok ?_ (by first | assumption | exact (AH.blk_put_ne _ _ (by assumption)).trans (by assumption) | exact AH.none_put (by assumption) | exact AH.none_put (AH.none_put (by assumption)) | (simp only [AH.blk_setTok, AH.tok_put] at *; first | assumption | exact AH.none_put (by assumption)))) | (refine AH.le_putM ?_ (by first | assumption | exact (AH.mp_putM_ne _ _ (by assumption)).trans (by assumption) | (simp only [AH.mp_put, AH.mp_setTok] at *; assumption)))))⟩⟩
    rw [if_neg (fun hp => by have := prm_srt.1 hp; exact h4 (this.2 i (by omega)))]
    exact ret_ok rfl
  have h3 : i = l.length := by omega
  subst h3
  have hc : ¬ (l.length : Int) < ((srt l).length : Int) := by omega
  simp only [hc, F_coloring_GreedyW, g_coloring_GreedyW, go_sem, reduceIte, Nat.reduceEqDiff, Nat.reduceAdd, Nat.reduceMul, Nat.reduceSub, reduceCtorEq, Nat.reduceLeDiff, Nat.reduceLT, Int.reduceLT, Int.reduceLE, Int.reduceToNat, Int.reduceAdd, Int.reduceSub, Int.reduceNeg, Int.reduceMul, Int.reduceEq, ← Bool.decide_and, ← Bool.decide_or, ↓tq_n, ↓tq_e, ↓tq_r, ↓bq_n, ↓bq_e, ↓bq_r, ↓rq_n, ↓rq_r, ↓rq_e]
  by_cases h6 : (l.length : Int) = (N : Int)
  case neg =>
    rw [if_neg (fun hp => by have := hp.1; omega)]
    simp only [h6, F_coloring_GreedyW, g_coloring_GreedyW, go_sem, reduceIte, Nat.reduceEqDiff, Nat.reduceAdd, Nat.reduceMul, Nat.reduceSub, reduceCtorEq, Nat.reduceLeDiff, Nat.reduceLT, Int.reduceLT, Int.reduceLE, Int.reduceToNat, Int.reduceAdd, Int.reduceSub, Int.reduceNeg, Int.reduceMul, Int.reduceEq, ← Bool.decide_and, ← Bool.decide_or, ↓tq_n, ↓tq_e, ↓tq_r, ↓bq_n, ↓bq_e, ↓bq_r, ↓rq_n, ↓rq_r, ↓rq_e]
    exact ret_ok rfl
  have h6n : l.length = N := by omega
  have hp : Prm l N := prm_srt.2 ⟨h6n, fun j hj => i2 j (by omega)⟩
  have hpr : ∀ i, i < N → 0 ≤ l.getD i 0 ∧ l.getD i 0 < N := fun i hi => (hp.2 i hi).1
  rw [if_pos hp]
  refine ⟨fun hh => absurd h6 hh, fun _ => ?_⟩
  refine CallG.mk (r_coloring_made n1 N e u1 hv _) ?_
  simp only [F_coloring_GreedyW, g_coloring_GreedyW, go_sem, reduceIte, Nat.reduceEqDiff, Nat.reduceAdd, Nat.reduceMul, Nat.reduceSub, reduceCtorEq, Nat.reduceLeDiff, Nat.reduceLT, Int.reduceLT, Int.reduceLE, Int.reduceToNat, Int.reduceAdd, Int.reduceSub, Int.reduceNeg, Int.reduceMul, Int.reduceEq, ← Bool.decide_and, ← Bool.decide_or, ↓tq_n, ↓tq_e, ↓tq_r, ↓bq_n, ↓bq_e, ↓bq_r, ↓rq_n, ↓rq_r, ↓rq_e]
  refine CallS.mk (s_slices_Repeat (-1) false .full N (by omega) _) fun r h'' hr => ?_
  obtain ⟨b, hb, rfl, rfl⟩ := hr
  simp only [F_coloring_GreedyW, g_coloring_GreedyW, go_sem, reduceIte, Nat.reduceEqDiff, Nat.reduceAdd, Nat.reduceMul, Nat.reduceSub, reduceCtorEq, Nat.reduceLeDiff, Nat.reduceLT, Int.reduceLT, Int.reduceLE, Int.reduceToNat, Int.reduceAdd, Int.reduceSub, Int.reduceNeg, Int.reduceMul, Int.reduceEq, ← Bool.decide_and, ← Bool.decide_or, ↓tq_n, ↓tq_e, ↓tq_r, ↓bq_n, ↓bq_e, ↓bq_r, ↓rq_n, ↓rq_r, ↓rq_e]
  have hrep : List.replicate N (I (-1)) = i64s (grd e l N 0) := by simp [grd, i64s]
  rw [hrep]
  refine awp_loop (fun k : Nat => [(0, I N), (2, .sl n2 l.length (i64s l) u2), (11, grp N e), (12, .sptr [.msl b 0 N (some N)]), (44, .sl n2 l.length (i64s l) u2), (45, I l.length), (46, I k)]) (fun k => h'.put b (i64s (grd e l N k))) (fun k => k ≤ l.length) (fun k => l.length - k) 0 (Nat.zero_le _) (GStep.forget (by repeat' first | exact EnvLe.nil _ | refine EnvLe.cons (AV.le.of_eq rfl) ?_ | refine EnvLe.cons (AV.le.undef _) ?_ | refine EnvLe.cons AV.le.unk ?_) (by repeat' first | exact AH.le.refl _ | assumption | (refine AH.le_put ?_ (by first | assumption | exact (AH.blk_put_ne _ _ (by assumption)).trans (by assumption) | exact AH.none_put (by assumption) | exact AH.none_put (AH.none_put (by assumption)) | (simp only [AH.blk_setTok, AH.tok_put] at *; first | assumption | exact AH.none_put (by assumption)))) | (refine AH.le_setTok ?_ (by first | assumption | exact (AH.blk_put_ne _ _ (by assumption)).trans (by assumption) | exact AH.none_put (by assumption) | exact AH.none_put (AH.none_put (by assumption)) | (simp only [AH.blk_setTok, AH.tok_put] at *; first | assumption | exact AH.none_put (by assumption)))) | (refine AH.le_putM ?_ (by first | assumption | exact (AH.mp_putM_ne _ _ (by assumption)).trans (by assumption) | (simp only [AH.mp_put, AH.mp_setTok] at *; assumption))))) fun k hk => .of_vg hm ?_
  by_cases h5 : k < l.length
  · have hc : (k : Int) < (l.length : Int) := by omega
    have hlt := grd_lt (e := e) hpr (by omega) k (by omega)
    have hgl := grd_len e l N k
    obtain ⟨c, hcd⟩ : ∃ c, c = grd e l N k := ⟨_, rfl⟩
    obtain ⟨v, hvd⟩ : ∃ v, v = l.getD k 0 := ⟨_, rfl⟩
    obtain ⟨f, f1, f2, f3, f4⟩ := fcol_spec (e := e) (c := c) (v := v) (i := k) (fun u hu => by rw [hcd] at hu ⊢; exact (hlt u (by rw [hgl] at hu; exact hu)).2) (by omega)
    have hvr := hpr k (by omega)
    have egr : grd e l N (k + 1) = c.set v.toNat f := by rw [grd, ← hcd, ← hvd, f1]
    rw [← hcd] at hgl hlt ⊢
    rw [← hvd] at hvr
    have hdk : (i64s l).drop k = I v :: (i64s l).drop (k + 1) := by rw [i64s_drop h5, hvd]
    simp only [hc, hdk, F_coloring_GreedyW, g_coloring_GreedyW, go_sem, reduceIte, Nat.reduceEqDiff, Nat.reduceAdd, Nat.reduceMul, Nat.reduceSub, reduceCtorEq, Nat.reduceLeDiff, Nat.reduceLT, Int.reduceLT, Int.reduceLE, Int.reduceToNat, Int.reduceAdd, Int.reduceSub, Int.reduceNeg, Int.reduceMul, Int.reduceEq, ← Bool.decide_and, ← Bool.decide_or, ↓tq_n, ↓tq_e, ↓tq_r, ↓bq_n, ↓bq_e, ↓bq_r, ↓rq_n, ↓rq_r, ↓rq_e]
    refine AllocG.mk fun b15 hb15 => ?_
    have hbb : b ≠ b15 := fun hh => by subst hh; rw [AH.blk_put] at hb15; cases hb15
    have hb15' : h'.blk b15 = none := by rw [AH.blk_put_ne _ _ hbb.symm] at hb15; exact hb15
    simp only [F_coloring_GreedyW, g_coloring_GreedyW, go_sem, reduceIte, Nat.reduceEqDiff, Nat.reduceAdd, Nat.reduceMul, Nat.reduceSub, reduceCtorEq, Nat.reduceLeDiff, Nat.reduceLT, Int.reduceLT, Int.reduceLE, Int.reduceToNat, Int.reduceAdd, Int.reduceSub, Int.reduceNeg, Int.reduceMul, Int.reduceEq, ← Bool.decide_and, ← Bool.decide_or, ↓tq_n, ↓tq_e, ↓tq_r, ↓bq_n, ↓bq_e, ↓bq_r, ↓rq_n, ↓rq_r, ↓rq_e]
    refine awp_loop (fun x : Nat => [(0, I N), (2, .sl n2 l.length (i64s l) u2), (11, grp N e), (12, .sptr [.msl b 0 N (some N)]), (14, I v), (15, .ptr b15 0), (44, .sl n2 l.length (i64s l) u2), (45, I l.length), (46, I k)]) (fun x => (h'.put b (i64s c)).put b15 [I x]) (fun x => x ≤ f) (fun x => f - x) 0 (Nat.zero_le _) (GStep.forget (by repeat' first | exact EnvLe.nil _ | refine EnvLe.cons (AV.le.of_eq rfl) ?_ | refine EnvLe.cons (AV.le.undef _) ?_ | refine EnvLe.cons AV.le.unk ?_) (by repeat' first | exact AH.le.refl _ | assumption | (refine AH.le_put ?_ (by first | assumption | exact (AH.blk_put_ne _ _ (by assumption)).trans (by assumption) | exact AH.none_put (by assumption) | exact AH.none_put (AH.none_put (by assumption)) | (simp only [AH.blk_setTok, AH.tok_put] at *; first | assumption | exact AH.none_put (by assumption)))) | (refine AH.le_setTok ?_ (by first | assumption | exact (AH.blk_put_ne _ _ (by assumption)).trans (by assumption) | exact AH.none_put (by assumption) | exact AH.none_put (AH.none_put (by assumption)) | (simp only [AH.blk_setTok, AH.tok_put] at *; first | assumption | exact AH.none_put (by assumption)))) | (refine AH.le_putM ?_ (by first | assumption | exact (AH.mp_putM_ne _ _ (by assumption)).trans (by assumption) | (simp only [AH.mp_put, AH.mp_setTok] at *; assumption))))) fun x hx => .of_vg hm ?_
    have hvn : v.toNat < N := by omega
    have hvc : v < (N : Int) := by omega
    have hd : ((List.range N).map fun (v : Nat) => asl (adj e v)).drop v.toNat = asl (adj e v) :: ((List.range N).map fun (v : Nat) => asl (adj e v)).drop (v.toNat + 1) :=
      drop_of_get (by have e3 : ((v.toNat : Nat) : Int) = v := by omega
                      have e4 : v.toNat < N := by omega
                      rw [List.getElem?_map, List.getElem?_range e4, Option.map_some, e3])
    have hcl2 : (c.length : Int) = (N : Int) := by omega
    simp only [grp, hvr.1, hvc, hd, Nat.mul_one, F_coloring_GreedyW, g_coloring_GreedyW, go_sem, reduceIte, Nat.reduceEqDiff, Nat.reduceAdd, Nat.reduceMul, Nat.reduceSub, reduceCtorEq, Nat.reduceLeDiff, Nat.reduceLT, Int.reduceLT, Int.reduceLE, Int.reduceToNat, Int.reduceAdd, Int.reduceSub, Int.reduceNeg, Int.reduceMul, Int.reduceEq, ← Bool.decide_and, ← Bool.decide_or, ↓tq_n, ↓tq_e, ↓tq_r, ↓bq_n, ↓bq_e, ↓bq_r, ↓rq_n, ↓rq_r, ↓rq_e]
    refine CallG.mk (r_slices_ContainsFunc_int (decide (adj e v = [])) (adj e v) .unk _ _ (fun i => decide (c.getD ((adj e v).getD i 0).toNat 0 = x)) _ (fun i hi => r_coloring_Greedy_1 _ x c N b b15 _ hgl (by rw [AH.blk_put_ne _ _ hbb, AH.blk_put]) (AH.blk_put _ _ _) (adj_in hv hi))) ?_
    rw [any_adj2 hv hcl2 v x]
    by_cases h8 : x < f
    · rw [f4 x h8]
      simp only [F_coloring_GreedyW, g_coloring_GreedyW, go_sem, reduceIte, Nat.reduceEqDiff, Nat.reduceAdd, Nat.reduceMul, Nat.reduceSub, reduceCtorEq, Nat.reduceLeDiff, Nat.reduceLT, Int.reduceLT, Int.reduceLE, Int.reduceToNat, Int.reduceAdd, Int.reduceSub, Int.reduceNeg, Int.reduceMul, Int.reduceEq, ← Bool.decide_and, ← Bool.decide_or, ↓tq_n, ↓tq_e, ↓tq_r, ↓bq_n, ↓bq_e, ↓bq_r, ↓rq_n, ↓rq_r, ↓rq_e]
      exact ⟨by rw [inR64]; omega, x + 1, by omega, by omega, (GStep.forget (by repeat' first | exact EnvLe.nil _ | refine EnvLe.cons (AV.le.of_eq rfl) ?_ | refine EnvLe.cons (AV.le.undef _) ?_ | refine EnvLe.cons AV.le.unk ?_) (by repeat' first | exact AH.le.refl _ | assumption | (refine AH.le_put ?_ (by first | assumption | exact (AH.blk_put_ne _ _ (by assumption)).trans (by assumption) | exact AH.none_put (by assumption) | exact AH.none_put (AH.none_put (by assumption)) | (simp only [AH.blk_setTok, AH.tok_put] at *; first | assumption | exact AH.none_put (by assumption)))) | (refine AH.le_setTok ?_ (by first | assumption | exact (AH.blk_put_ne _ _ (by assumption)).trans (by assumption) | exact AH.none_put (by assumption) | exact AH.none_put (AH.none_put (by assumption)) | (simp only [AH.blk_setTok, AH.tok_put] at *; first | assumption | exact AH.none_put (by assumption)))) | (refine AH.le_putM ?_ (by first | assumption | exact (AH.mp_putM_ne _ _ (by assumption)).trans (by assumption) | (simp only [AH.mp_put, AH.mp_setTok] at *; assumption)))))⟩
    have h8 : x = f := by omega
    subst h8
    rw [f3]
    have e2 : (i64s c).set v.toNat (I x) = i64s (c.set v.toNat x) := i64s_set _ _ _
    simp only [AH.blk_put_ne _ _ hbb, hvr.1, hvr.2, i64s_len, hgl, Nat.mul_one, F_coloring_GreedyW, g_coloring_GreedyW, go_sem, reduceIte, Nat.reduceEqDiff, Nat.reduceAdd, Nat.reduceMul, Nat.reduceSub, reduceCtorEq, Nat.reduceLeDiff, Nat.reduceLT, Int.reduceLT, Int.reduceLE, Int.reduceToNat, Int.reduceAdd, Int.reduceSub, Int.reduceNeg, Int.reduceMul, Int.reduceEq, ← Bool.decide_and, ← Bool.decide_or, ↓tq_n, ↓tq_e, ↓tq_r, ↓bq_n, ↓bq_e, ↓bq_r, ↓rq_n, ↓rq_r, ↓rq_e]
    refine ⟨by omega, by rw [inR64]; omega, k + 1, by omega, by omega, ?_⟩
    rw [e2, egr, AH.put_comm _ _ _ hbb, AH.put_put]
    exact GStep.forget (by repeat' first | exact EnvLe.nil _ | refine EnvLe.cons (AV.le.of_eq rfl) ?_ | refine EnvLe.cons (AV.le.undef _) ?_ | refine EnvLe.cons AV.le.unk ?_) (AH.le_put2 (AH.le_new _ _ hb15'))
  have h5 : k = l.length := by omega
  subst h5
  simp only [F_coloring_GreedyW, g_coloring_GreedyW, go_sem, reduceIte, Nat.reduceEqDiff, Nat.reduceAdd, Nat.reduceMul, Nat.reduceSub, reduceCtorEq, Nat.reduceLeDiff, Nat.reduceLT, Int.reduceLT, Int.reduceLE, Int.reduceToNat, Int.reduceAdd, Int.reduceSub, Int.reduceNeg, Int.reduceMul, Int.reduceEq, ← Bool.decide_and, ← Bool.decide_or, ↓tq_n, ↓tq_e, ↓tq_r, ↓bq_n, ↓bq_e, ↓bq_r, ↓rq_n, ↓rq_r, ↓rq_e]
  have := RGh.fix (n := N) (cap := some N) (AH.blk_put h' b (i64s (grd e l N l.length))) 1
  rw [Nat.mul_one, List.take_of_length_le (by rw [i64s_len, grd_len]; exact Nat.le_refl _)] at this
  rw [h6n] at this ⊢
  exact ⟨_, h', (@RGh.tupAt [] [I 0] _ _ _ _ this).trans (RGh.forget (AV.le.refl _) (le_putdel hb)), rfl, rfl⟩
end Go.Proofs.Yticiimmfjdkimaa
