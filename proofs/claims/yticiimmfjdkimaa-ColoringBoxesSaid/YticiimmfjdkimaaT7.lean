/- The law ColoringBoxes. No condition. -/
import Derived.Test.YticiimmfjdkimaaT5
import Derived.Test.YticiimmfjdkimaaG1
namespace Go.Proofs.Yticiimmfjdkimaa
open Go Go.Abs
set_option linter.unusedSimpArgs false
set_option linter.unusedVariables false
set_option maxRecDepth 20000

theorem mem_ovRow {l : List (Int × Int)} {i : Nat} {p : Int × Int} : ∀ {k : Nat}, p ∈ ovRow l i k ↔ ∃ j, j < k ∧ p = ((i : Int), (j : Int)) ∧ i < j ∧ meets (l.getD i (0, 0)) (l.getD j (0, 0)) := by
  intro k
  induction k with
  | zero => simp [ovRow]
  | succ k ih =>
    unfold ovRow
    rw [List.mem_append, ih]
    constructor
    · rintro (⟨j, a, b⟩ | h)
      · exact ⟨j, by omega, b⟩
      · split at h
        · rename_i hc
          rw [List.mem_singleton] at h
          exact ⟨k, by omega, h, hc⟩
        · simp at h
    · rintro ⟨j, a, b, c⟩
      by_cases hj : j = k
      · subst hj; rw [if_pos c]; exact .inr (by rw [b]; simp)
      · exact .inl ⟨j, by omega, b, c⟩
theorem mem_ovTo {l : List (Int × Int)} {p : Int × Int} : ∀ {n : Nat}, p ∈ ovTo l n ↔ ∃ i j, i < n ∧ j < l.length ∧ p = ((i : Int), (j : Int)) ∧ i < j ∧ meets (l.getD i (0, 0)) (l.getD j (0, 0)) := by
  intro n
  induction n with
  | zero => simp [ovTo]
  | succ n ih =>
    rw [ovTo, List.mem_append, ih, mem_ovRow]
    constructor
    · rintro (⟨i, j, a, b⟩ | ⟨j, a, b⟩)
      · exact ⟨i, j, by omega, b⟩
      · exact ⟨n, j, by omega, a, b⟩
    · rintro ⟨i, j, a, b, c⟩
      by_cases hi : i = n
      · subst hi; exact .inr ⟨j, b, c⟩
      · exact .inl ⟨i, j, by omega, b, c⟩
theorem ovRow_pw (l : List (Int × Int)) (i : Nat) : ∀ k, (ovRow l i k).Pairwise plt := by
  intro k
  induction k with
  | zero => exact .nil
  | succ k ih =>
    unfold ovRow
    refine List.pairwise_append.2 ⟨ih, ?_, fun p hp q hq => ?_⟩
    · split
      · exact List.pairwise_singleton _ _
      · exact .nil
    · obtain ⟨j, a1, rfl, _⟩ := mem_ovRow.1 hp
      split at hq
      · rw [List.mem_singleton] at hq
        subst hq
        exact .inr ⟨rfl, by simp only; omega⟩
      · simp at hq
theorem ovTo_pw (l : List (Int × Int)) : ∀ n, (ovTo l n).Pairwise plt := by
  intro n
  induction n with
  | zero => exact .nil
  | succ n ih =>
    unfold ovTo
    refine List.pairwise_append.2 ⟨ih, ovRow_pw l n _, fun p hp q hq => ?_⟩
    obtain ⟨i, j, a1, a2, rfl, _⟩ := mem_ovTo.1 hp
    obtain ⟨k, b1, rfl, _⟩ := mem_ovRow.1 hq
    exact .inl (by simp only; omega)
theorem ovTo_vd {l : List (Int × Int)} (h12 : l.length ≤ 12) : Vd l.length (ovTo l l.length) := by
  refine vd_iff.2 ⟨by omega, by omega, fun p hp => ?_, ovTo_pw l _⟩
  obtain ⟨i, j, a1, a2, rfl, a3, _⟩ := mem_ovTo.1 hp
  simp only; omega
/-- Those of the first k years that have the first year of the i-th. -/
def ctN (l : List (Int × Int)) (i : Nat) : Nat → List Int
  | 0 => []
  | k + 1 => if (l.getD k (0, 0)).1 ≤ (l.getD i (0, 0)).1 ∧ (l.getD i (0, 0)).1 ≤ (l.getD k (0, 0)).2 then ctN l i k ++ [(k : Int)] else ctN l i k
theorem ctN_len (l : List (Int × Int)) (i : Nat) : ∀ k, ((ctN l i k).length : Int) = cntTo l i k := by
  intro k
  induction k with
  | zero => rfl
  | succ k ih =>
    unfold ctN cntTo
    split
    · rw [List.length_append, List.length_singleton]; omega
    · omega
theorem mem_ctN {l : List (Int × Int)} {i : Nat} {x : Int} : ∀ {k : Nat}, x ∈ ctN l i k ↔ ∃ j : Nat, j < k ∧ x = j ∧ (l.getD j (0, 0)).1 ≤ (l.getD i (0, 0)).1 ∧ (l.getD i (0, 0)).1 ≤ (l.getD j (0, 0)).2 := by
  intro k
  induction k with
  | zero => simp [ctN]
  | succ k ih =>
    unfold ctN
    split
    · rename_i hc
      rw [List.mem_append, ih, List.mem_singleton]
      constructor
      · rintro (⟨j, a, b⟩ | rfl)
        · exact ⟨j, by omega, b⟩
        · exact ⟨k, by omega, rfl, hc⟩
      · rintro ⟨j, a, b, c⟩
        by_cases hj : j = k
        · subst hj; exact .inr b
        · exact .inl ⟨j, by omega, b, c⟩
    · rename_i hc
      rw [ih]
      constructor
      · rintro ⟨j, a, b⟩; exact ⟨j, by omega, b⟩
      · rintro ⟨j, a, b, c⟩
        by_cases hj : j = k
        · subst hj; exact absurd c hc
        · exact ⟨j, by omega, b, c⟩
theorem ctN_pw (l : List (Int × Int)) (i : Nat) : ∀ k, (ctN l i k).Pairwise (· < ·) := by
  intro k
  induction k with
  | zero => exact .nil
  | succ k ih =>
    unfold ctN
    split
    · refine List.pairwise_append.2 ⟨ih, List.pairwise_singleton _ _, fun a ha b hb => ?_⟩
      rw [List.mem_singleton] at hb
      obtain ⟨j, a1, a2, _⟩ := mem_ctN.1 ha
      omega
    · exact ih
theorem bxTo_ge {l : List (Int × Int)} {i : Nat} : ∀ {n : Nat}, i < n → cntTo l i l.length ≤ bxTo l n := by
  intro n
  induction n with
  | zero => intro h; omega
  | succ n ih =>
    intro h
    unfold bxTo
    by_cases hi : i = n
    · subst hi; omega
    · have := ih (by omega); omega
theorem bxTo_at {l : List (Int × Int)} : ∀ {n : Nat}, 0 < n → ∃ i, i < n ∧ bxTo l n = cntTo l i l.length := by
  intro n
  induction n with
  | zero => intro h; omega
  | succ n ih =>
    intro _
    unfold bxTo
    rcases Nat.eq_zero_or_pos n with h0 | h0
    · subst h0
      have := cntTo_le l 0 l.length
      exact ⟨0, by omega, by simp only [bxTo]; omega⟩
    · obtain ⟨i, a, b⟩ := ih h0
      by_cases hc : bxTo l n ≤ cntTo l n l.length
      · exact ⟨n, by omega, by omega⟩
      · exact ⟨i, by omega, by omega⟩
theorem clique_le2 {n : Int} {e : List (Int × Int)} (hv : Vd n e) {t : List Int} (ht : t.Pairwise fun u v => (u, v) ∈ e) (hm : ∀ u ∈ t, 0 ≤ u ∧ u < n) {c : List Int} {k : Nat} (hc : isC n e c) (hr : ∀ i, i < c.length → c.getD i 0 < k) : t.length ≤ k := by
  obtain ⟨c1, c2, c3⟩ := (isC_iff hv).1 hc
  have hnd : (t.map fun u => c.getD u.toNat 0).Nodup := by
    refine List.pairwise_map.2 (ht.imp_of_mem fun {u v} hu hv2 hh => ?_)
    have hp := vd_mem hv hh
    have := hm v hv2
    simp only at hp
    refine c3 u.toNat v.toNat (by omega) (by omega) ?_
    rw [show ((u.toNat : Nat) : Int) = u by omega, show ((v.toNat : Nat) : Int) = v by omega]
    exact hh
  have := sub_len hnd (B := upN k) fun x hx => by
    obtain ⟨u, hu, rfl⟩ := List.mem_map.1 hx
    have := hm u hu
    exact mem_upN.2 ⟨c2 _ (by omega), hr _ (by omega)⟩
  rw [upN_len, List.length_map] at this
  exact this
/-- The beginnings. -/
def bgn (l : List (Int × Int)) : List Int := l.map Prod.fst
theorem bgn_get (l : List (Int × Int)) (i : Nat) : (bgn l).getD i 0 = (l.getD i (0, 0)).1 := by
  simp only [bgn, List.getD_eq_getElem?_getD, List.getElem?_map]
  cases l[i]? <;> rfl
theorem nats_prm (l : List (Int × Int)) : Prm (nats (ordL (bgn l) l.length)) l.length := by
  refine prm_of ?_ fun x => ?_
  · unfold nats
    refine List.pairwise_map.2 (((ordL_perm (bgn l) l.length).nodup_iff.2 List.nodup_range).imp fun hh => ?_)
    omega
  · unfold nats
    rw [List.mem_map]
    constructor
    · rintro ⟨j, hj, rfl⟩; have := ordL_mem.1 hj; omega
    · intro hx; exact ⟨x.toNat, ordL_mem.2 (by omega), by omega⟩
/-- Greedy coloring in the order of the beginnings needs no more colors than one year has. -/
theorem grd_box {l : List (Int × Int)} (h12 : l.length ≤ 12) (hy : ∀ i, i < l.length → (l.getD i (0, 0)).1 ≤ (l.getD i (0, 0)).2) : ∀ i, i ≤ l.length → ∀ u, u < l.length →
    (grd (ovTo l l.length) (nats (ordL (bgn l) l.length)) l.length i).getD u 0 < bxTo l l.length := by
  have hv := ovTo_vd h12
  have hp := nats_prm l
  obtain ⟨N, hN⟩ : ∃ N, N = l.length := ⟨_, rfl⟩
  obtain ⟨e, he⟩ : ∃ e, e = ovTo l l.length := ⟨_, rfl⟩
  obtain ⟨O, hO⟩ : ∃ O, O = ordL (bgn l) l.length := ⟨_, rfl⟩
  have hOl : O.length = N := by rw [hO, ordL_len, hN]
  have hsrt : O.Pairwise (Bef (bgn l)) := by rw [hO]; exact ordL_sorted _ _
  have hmem : ∀ {x}, x ∈ O ↔ x < N := fun {x} => by rw [hO, hN]; exact ordL_mem
  rw [← he, ← hO]
  rw [← hO] at hp
  rw [← he] at hv
  have hpr : ∀ i, i < N → 0 ≤ (nats O).getD i 0 ∧ (nats O).getD i 0 < N := fun i hi => by rw [hN]; exact (hp.2 i (by omega)).1
  have hge : ∀ i, i < l.length → 1 ≤ cntTo l i l.length ∧ cntTo l i l.length ≤ bxTo l l.length := fun i hi => by
    refine ⟨?_, bxTo_ge hi⟩
    rw [← ctN_len]
    have : (i : Int) ∈ ctN l i l.length := mem_ctN.2 ⟨i, hi, rfl, Int.le_refl _, hy i hi⟩
    have := List.length_pos_of_mem this
    omega
  rw [← hN] at hv hp hge ⊢
  intro i
  induction i with
  | zero => intro _ u hu; have := hge u (by omega); simp [grd, List.getD, hu]; omega
  | succ i ih =>
    intro hi u hu
    have ih := ih (by omega)
    obtain ⟨i1, i2⟩ := grd_inv hv rfl hp i (by omega)
    have hlt := grd_lt (e := e) hpr (by omega) i (by omega)
    have hgl := grd_len e (nats O) N i
    obtain ⟨d, hd⟩ : ∃ d, d = grd e (nats O) N i := ⟨_, rfl⟩
    obtain ⟨v, hvd⟩ : ∃ v, v = O.getD i 0 := ⟨_, rfl⟩
    have hvn : (nats O).getD i 0 = (v : Int) := by rw [nats_get (by omega), ← hvd]
    have hvN : v < N := hmem.1 (by rw [hvd]; exact mem_getD (by omega))
    obtain ⟨f, f1, f2, f3, f4⟩ := fcol_spec (e := e) (c := d) (v := (nats O).getD i 0) (i := i) (fun u hu => by rw [hd] at hu ⊢; exact (hlt u (by rw [hgl] at hu; exact hu)).2) (by omega)
    have egr : grd e (nats O) N (i + 1) = d.set v f := by rw [grd, ← hd, f1, hvn, Int.toNat_natCast]
    rw [← hd] at hgl i2 ih
    rw [egr, getD_setI (by omega)]
    split
    · rename_i hh
      subst hh
      have hdv : d.getD v 0 = -1 := by
        have h1 := hlt v hvN
        rw [← hd] at h1
        have h2 : ¬ 0 ≤ d.getD v 0 := fun h0 => by
          obtain ⟨j, j1, j2⟩ := (i2 v hvN).1 h0
          exact (hp.2 i (by omega)).2 j j1 (by rw [j2, hvn])
        omega
      have hsub := sub_len (A := -1 :: upN f) (B := (ctN l v N).map fun w => d.getD w.toNat 0) (List.nodup_cons.2 ⟨fun h0 => by have := mem_upN.1 h0; omega, upN_nodup f⟩) (fun x hx => by
        rcases List.mem_cons.1 hx with rfl | hx
        · exact List.mem_map.2 ⟨(v : Int), mem_ctN.2 ⟨v, hvN, rfl, Int.le_refl _, hy v (by omega)⟩, by rw [Int.toNat_natCast]; exact hdv⟩
        · have hx := mem_upN.1 hx
          have hb := f4 x.toNat (by omega)
          rw [show ((x.toNat : Nat) : Int) = x by omega] at hb
          obtain ⟨w, w1, w2, w3⟩ := blk_iff.1 hb
          have wN : w < N := by omega
          obtain ⟨j, j1, j2⟩ := (i2 w wN).1 (by omega)
          rw [nats_get (by omega)] at j2
          have hj2 : O.getD j 0 = w := by omega
          have hbef := pw_at hsrt 0 j1 (by omega)
          rw [hj2, ← hvd] at hbef
          unfold Bef at hbef
          rw [bgn_get, bgn_get] at hbef
          rw [hvn] at w3
          have hmt : (l.getD v (0, 0)).1 ≤ (l.getD w (0, 0)).2 := by
            have hne : w ≠ v := fun hh => by rw [hh, hdv] at w2; omega
            rcases Nat.lt_or_gt_of_ne hne with h1 | h1
            · have := (jn_lt (e := e) (u := (w : Int)) (v := (v : Int)) (by omega)).1 w3
              rw [he] at this
              obtain ⟨a, b, _, _, e1, _, m1⟩ := mem_ovTo.1 this
              have e2 : a = w := by have := congrArg Prod.fst e1; simp only at this; omega
              have e3 : b = v := by have := congrArg Prod.snd e1; simp only at this; omega
              rw [e2, e3] at m1
              unfold meets at m1
              omega
            · have := (jn_lt (e := e) (u := (v : Int)) (v := (w : Int)) (by omega)).1 (jn_symm w3)
              rw [he] at this
              obtain ⟨a, b, _, _, e1, _, m1⟩ := mem_ovTo.1 this
              have e2 : a = v := by have := congrArg Prod.fst e1; simp only at this; omega
              have e3 : b = w := by have := congrArg Prod.snd e1; simp only at this; omega
              rw [e2, e3] at m1
              unfold meets at m1
              omega
          exact List.mem_map.2 ⟨(w : Int), mem_ctN.2 ⟨w, wN, rfl, by omega, hmt⟩, by rw [Int.toNat_natCast]; exact w2⟩)
      rw [List.length_cons, upN_len, List.length_map] at hsub
      have h1 := ctN_len l v N
      have h2 := hge v (by omega)
      omega
    · exact ih u hu
theorem box_chi {l : List (Int × Int)} (h12 : l.length ≤ 12) (hy : ∀ i, i < l.length → (l.getD i (0, 0)).1 ≤ (l.getD i (0, 0)).2) : chi l.length (ovTo l l.length) = bxTo l l.length := by
  have hv := ovTo_vd h12
  obtain ⟨k0, k1, _, k3⟩ := chi_kc hv
  have hp := nats_prm l
  rcases Nat.eq_zero_or_pos l.length with h0 | h0
  · rw [h0] at k0 k1 ⊢
    simp only [bxTo]
    omega
  · have hb := grd_box h12 hy l.length (Nat.le_refl _)
    have hN : ((l.length : Nat) : Int).toNat = l.length := by omega
    obtain ⟨g1, _⟩ := grd_isC hv (l := nats (ordL (bgn l) l.length)) (by rw [hN]; exact hp)
    rw [hN] at g1
    obtain ⟨g2, g3, g4⟩ := (isC_iff hv).1 g1
    obtain ⟨j, j1, j2⟩ := bxTo_at (l := l) h0
    have hc := cntTo_le l j l.length
    have le1 := k3 (bxTo l l.length) (by omega) ⟨_, by rw [hN, grd_len], g4, fun i hi => ⟨g3 i hi, hb i (by rw [grd_len] at hi; exact hi)⟩⟩
    have hcl := clique_le2 hv (t := ctN l j l.length) ((ctN_pw l j l.length).imp_of_mem fun {a b} ha hb2 hab => by
      obtain ⟨p, p1, rfl, p3⟩ := mem_ctN.1 ha
      obtain ⟨q, q1, rfl, q3⟩ := mem_ctN.1 hb2
      refine mem_ovTo.2 ⟨p, q, p1, q1, rfl, by omega, ?_⟩
      unfold meets
      omega) (fun u hu => by obtain ⟨p, p1, rfl, _⟩ := mem_ctN.1 hu; omega) (col_isC hv) (k := (chi l.length (ovTo l l.length)).toNat) (fun i hi => by have := ((col_spec hv).2.2 i hi).2; omega)
    have := ctN_len l j l.length
    omega
theorem gl_pos2 {cs : List AV} {n : Nat} {tl : Tail} (h : 0 < n) : gl cs n tl = .sl false n cs tl := by
  unfold gl
  rw [decide_eq_false (by omega)]
theorem yerr0 {l : List (Int × Int)} (h : yerr l = 0) : l.length ≤ 12 ∧ ∀ i, i < l.length → (l.getD i (0, 0)).1 ≤ (l.getD i (0, 0)).2 := by
  unfold yerr at h
  split at h
  · cases h
  · split at h
    · rename_i h1 h2
      exact ⟨by omega, fun i hi => (h2 i hi).1⟩
    · cases h

set_option maxHeartbeats 1000000 in
theorem r_law_ColoringBoxes (nl : Bool) (l : List (Int × Int)) (tl : Tail) (h : AH) : RCall Try.prog n_law_ColoringBoxesW [.sl nl l.length (prs l) tl] h (.bool true) := by
  refine RCall.of hm cF_law_ColoringBoxesW (by simp [g_law_ColoringBoxesW]) fun hw h' hl => ?_
  simp only [F_law_ColoringBoxesW, g_law_ColoringBoxesW, go_sem, reduceIte, Nat.reduceEqDiff, Nat.reduceAdd, Nat.reduceMul, Nat.reduceSub, reduceCtorEq, Nat.reduceLeDiff, Nat.reduceLT, Int.reduceLT, Int.reduceLE, Int.reduceToNat, Int.reduceAdd, Int.reduceSub, Int.reduceNeg, Int.reduceMul, Int.reduceEq, ← Bool.decide_and, ← Bool.decide_or, ↓tq_n, ↓tq_e, ↓tq_r, ↓bq_n, ↓bq_e, ↓bq_r, ↓rq_n, ↓rq_r, ↓rq_e]
  refine CallG.mk (r_law_awake _) ?_
  by_cases k2 : (20 : Int) < (l.length : Int)
  · simp only [k2, F_law_ColoringBoxesW, g_law_ColoringBoxesW, go_sem, reduceIte, Nat.reduceEqDiff, Nat.reduceAdd, Nat.reduceMul, Nat.reduceSub, reduceCtorEq, Nat.reduceLeDiff, Nat.reduceLT, Int.reduceLT, Int.reduceLE, Int.reduceToNat, Int.reduceAdd, Int.reduceSub, Int.reduceNeg, Int.reduceMul, Int.reduceEq, ← Bool.decide_and, ← Bool.decide_or, ↓tq_n, ↓tq_e, ↓tq_r, ↓bq_n, ↓bq_e, ↓bq_r, ↓rq_n, ↓rq_r, ↓rq_e]
    refine CallG.mk (r_law_awake _) ?_
    simp only [F_law_ColoringBoxesW, g_law_ColoringBoxesW, go_sem, reduceIte, Nat.reduceEqDiff, Nat.reduceAdd, Nat.reduceMul, Nat.reduceSub, reduceCtorEq, Nat.reduceLeDiff, Nat.reduceLT, Int.reduceLT, Int.reduceLE, Int.reduceToNat, Int.reduceAdd, Int.reduceSub, Int.reduceNeg, Int.reduceMul, Int.reduceEq, ← Bool.decide_and, ← Bool.decide_or, ↓tq_n, ↓tq_e, ↓tq_r, ↓bq_n, ↓bq_e, ↓bq_r, ↓rq_n, ↓rq_r, ↓rq_e]
    exact ret_ok rfl
  simp only [k2, F_law_ColoringBoxesW, g_law_ColoringBoxesW, go_sem, reduceIte, Nat.reduceEqDiff, Nat.reduceAdd, Nat.reduceMul, Nat.reduceSub, reduceCtorEq, Nat.reduceLeDiff, Nat.reduceLT, Int.reduceLT, Int.reduceLE, Int.reduceToNat, Int.reduceAdd, Int.reduceSub, Int.reduceNeg, Int.reduceMul, Int.reduceEq, ← Bool.decide_and, ← Bool.decide_or, ↓tq_n, ↓tq_e, ↓tq_r, ↓bq_n, ↓bq_e, ↓bq_r, ↓rq_n, ↓rq_r, ↓rq_e]
  refine CallG.mk (r_coloring_Overlaps nl l tl _) ?_
  simp only [F_law_ColoringBoxesW, g_law_ColoringBoxesW, go_sem, reduceIte, Nat.reduceEqDiff, Nat.reduceAdd, Nat.reduceMul, Nat.reduceSub, reduceCtorEq, Nat.reduceLeDiff, Nat.reduceLT, Int.reduceLT, Int.reduceLE, Int.reduceToNat, Int.reduceAdd, Int.reduceSub, Int.reduceNeg, Int.reduceMul, Int.reduceEq, ← Bool.decide_and, ← Bool.decide_or, ↓tq_n, ↓tq_e, ↓tq_r, ↓bq_n, ↓bq_e, ↓bq_r, ↓rq_n, ↓rq_r, ↓rq_e]
  refine CallG.mk (r_coloring_Boxes nl l tl _) ?_
  by_cases h0 : yerr l = 0
  case neg =>
    rw [if_neg h0, if_neg h0]
    simp only [h0, F_law_ColoringBoxesW, g_law_ColoringBoxesW, go_sem, reduceIte, Nat.reduceEqDiff, Nat.reduceAdd, Nat.reduceMul, Nat.reduceSub, reduceCtorEq, Nat.reduceLeDiff, Nat.reduceLT, Int.reduceLT, Int.reduceLE, Int.reduceToNat, Int.reduceAdd, Int.reduceSub, Int.reduceNeg, Int.reduceMul, Int.reduceEq, ← Bool.decide_and, ← Bool.decide_or, ↓tq_n, ↓tq_e, ↓tq_r, ↓bq_n, ↓bq_e, ↓bq_r, ↓rq_n, ↓rq_r, ↓rq_e]
    exact ⟨fun _ => ret_ok rfl, fun hh => absurd (by simp) hh⟩
  rw [if_pos h0, if_pos h0, h0]
  obtain ⟨h12, hy⟩ := yerr0 h0
  have hv := ovTo_vd h12
  have hchi := box_chi h12 hy
  have hprm := nats_prm l
  have hgb := grd_box h12 hy l.length (Nat.le_refl _)
  have hNn : ((l.length : Nat) : Int).toNat = l.length := by omega
  obtain ⟨e, he⟩ : ∃ e, e = ovTo l l.length := ⟨_, rfl⟩
  obtain ⟨K, hK⟩ : ∃ K, K = bxTo l l.length := ⟨_, rfl⟩
  rw [← he] at hv hchi hgb
  rw [← hK] at hchi hgb
  rw [← he, ← hK]
  obtain ⟨m1, w1, e1⟩ : ∃ m1 w1, gsl e .unk = .sl m1 e.length (prs e) w1 := ⟨_, _, rfl⟩
  rw [e1]
  simp only [F_law_ColoringBoxesW, g_law_ColoringBoxesW, go_sem, reduceIte, Nat.reduceEqDiff, Nat.reduceAdd, Nat.reduceMul, Nat.reduceSub, reduceCtorEq, Nat.reduceLeDiff, Nat.reduceLT, Int.reduceLT, Int.reduceLE, Int.reduceToNat, Int.reduceAdd, Int.reduceSub, Int.reduceNeg, Int.reduceMul, Int.reduceEq, ← Bool.decide_and, ← Bool.decide_or, ↓tq_n, ↓tq_e, ↓tq_r, ↓bq_n, ↓bq_e, ↓bq_r, ↓rq_n, ↓rq_r, ↓rq_e]
  refine CallG.mk (r_coloring_Number m1 l.length e w1 _) ?_
  rw [if_pos hv, if_pos hv, hchi]
  simp only [F_law_ColoringBoxesW, g_law_ColoringBoxesW, go_sem, reduceIte, Nat.reduceEqDiff, Nat.reduceAdd, Nat.reduceMul, Nat.reduceSub, reduceCtorEq, Nat.reduceLeDiff, Nat.reduceLT, Int.reduceLT, Int.reduceLE, Int.reduceToNat, Int.reduceAdd, Int.reduceSub, Int.reduceNeg, Int.reduceMul, Int.reduceEq, ← Bool.decide_and, ← Bool.decide_or, ↓tq_n, ↓tq_e, ↓tq_r, ↓bq_n, ↓bq_e, ↓bq_r, ↓rq_n, ↓rq_r, ↓rq_e]
  obtain ⟨y, hyd⟩ : ∃ y, y = bgn l := ⟨_, rfl⟩
  have hyg : ∀ i, y.getD i 0 = (l.getD i (0, 0)).1 := fun i => by rw [hyd, bgn_get]
  refine awp_loop (fun i : Nat => [(0, .sl nl l.length (prs l) tl), (3, .sl m1 e.length (prs e) w1), (5, I K), (7, I K), (8, I 0), (9, gl (i64s (nats (ordL y i))) i .unk), (10, I i)]) (fun _ => h') (fun i => i ≤ l.length) (fun i => l.length - i) 0 (Nat.zero_le _) (GStep.forget (by repeat' first | exact EnvLe.nil _ | refine EnvLe.cons (AV.le.of_eq rfl) ?_ | refine EnvLe.cons (AV.le.undef _) ?_ | refine EnvLe.cons AV.le.unk ?_) (by repeat' first | exact AH.le.refl _ | assumption | (refine AH.le_put ?_ (by first | assumption | exact (AH.blk_put_ne _ _ (by assumption)).trans (by assumption) | exact AH.none_put (by assumption) | exact AH.none_put (AH.none_put (by assumption)) | (simp only [AH.blk_setTok, AH.tok_put] at *; first | assumption | exact AH.none_put (by assumption)))) | (refine AH.le_setTok ?_ (by first | assumption | exact (AH.blk_put_ne _ _ (by assumption)).trans (by assumption) | exact AH.none_put (by assumption) | exact AH.none_put (AH.none_put (by assumption)) | (simp only [AH.blk_setTok, AH.tok_put] at *; first | assumption | exact AH.none_put (by assumption)))) | (refine AH.le_putM ?_ (by first | assumption | exact (AH.mp_putM_ne _ _ (by assumption)).trans (by assumption) | (simp only [AH.mp_put, AH.mp_setTok] at *; assumption))))) fun i hi => .of_vg hm ?_
  by_cases h5 : i < l.length
  case neg =>
    have h5 : i = l.length := by omega
    subst h5
    have hN2 : (nats (ordL y l.length)).length = l.length := by rw [nats_len, ordL_len]
    have g1 : gl (i64s (nats (ordL y l.length))) l.length .unk = .sl (decide (l.length = 0)) (nats (ordL y l.length)).length (i64s (nats (ordL y l.length))) .unk := by rw [hN2]; rfl
    rw [g1]
    simp only [F_law_ColoringBoxesW, g_law_ColoringBoxesW, go_sem, reduceIte, Nat.reduceEqDiff, Nat.reduceAdd, Nat.reduceMul, Nat.reduceSub, reduceCtorEq, Nat.reduceLeDiff, Nat.reduceLT, Int.reduceLT, Int.reduceLE, Int.reduceToNat, Int.reduceAdd, Int.reduceSub, Int.reduceNeg, Int.reduceMul, Int.reduceEq, ← Bool.decide_and, ← Bool.decide_or, ↓tq_n, ↓tq_e, ↓tq_r, ↓bq_n, ↓bq_e, ↓bq_r, ↓rq_n, ↓rq_r, ↓rq_e]
    refine CallG.mk (r_coloring_Greedy l.length m1 e w1 (decide (l.length = 0)) (nats (ordL y l.length)) .unk (by omega) _) ?_
    rw [← hyd] at hprm hgb
    obtain ⟨gi1, gi2⟩ := grd_isC hv (l := nats (ordL y l.length)) (by rw [hNn]; exact hprm)
    have hgv : gV l.length e (nats (ordL y l.length)) = .tup [.sl false l.length (i64s (grd e (nats (ordL y l.length)) l.length l.length)) .unk, I 0] := by unfold gV; rw [if_pos hv, hNn, if_pos hprm]
    rw [hgv]
    rw [hNn] at gi1
    have hgl := grd_len e (nats (ordL y l.length)) l.length l.length
    obtain ⟨G, hG⟩ : ∃ G, G = grd e (nats (ordL y l.length)) l.length l.length := ⟨_, rfl⟩
    rw [← hG] at gi1 hgb hgl ⊢
    have hcn := colN_eq gi1 (fun i hi => by rw [hchi]; exact hgb i (by omega))
    have g2 : AV.sl false l.length (i64s G) .unk = .sl false G.length (i64s G) .unk := by rw [hgl]
    rw [g2]
    have kk : decide (K = K) = true := decide_eq_true rfl
    simp only [kk, F_law_ColoringBoxesW, g_law_ColoringBoxesW, go_sem, reduceIte, Nat.reduceEqDiff, Nat.reduceAdd, Nat.reduceMul, Nat.reduceSub, reduceCtorEq, Nat.reduceLeDiff, Nat.reduceLT, Int.reduceLT, Int.reduceLE, Int.reduceToNat, Int.reduceAdd, Int.reduceSub, Int.reduceNeg, Int.reduceMul, Int.reduceEq, ← Bool.decide_and, ← Bool.decide_or, ↓tq_n, ↓tq_e, ↓tq_r, ↓bq_n, ↓bq_e, ↓bq_r, ↓rq_n, ↓rq_r, ↓rq_e]
    refine CallG.mk (r_coloring_Is l.length m1 e w1 false G .unk _) ?_
    rw [decide_eq_true gi1]
    simp only [F_law_ColoringBoxesW, g_law_ColoringBoxesW, go_sem, reduceIte, Nat.reduceEqDiff, Nat.reduceAdd, Nat.reduceMul, Nat.reduceSub, reduceCtorEq, Nat.reduceLeDiff, Nat.reduceLT, Int.reduceLT, Int.reduceLE, Int.reduceToNat, Int.reduceAdd, Int.reduceSub, Int.reduceNeg, Int.reduceMul, Int.reduceEq, ← Bool.decide_and, ← Bool.decide_or, ↓tq_n, ↓tq_e, ↓tq_r, ↓bq_n, ↓bq_e, ↓bq_r, ↓rq_n, ↓rq_r, ↓rq_e]
    refine CallG.mk (r_law_colors false G .unk _) ?_
    rw [hcn, hchi]
    simp only [kk, F_law_ColoringBoxesW, g_law_ColoringBoxesW, go_sem, reduceIte, Nat.reduceEqDiff, Nat.reduceAdd, Nat.reduceMul, Nat.reduceSub, reduceCtorEq, Nat.reduceLeDiff, Nat.reduceLT, Int.reduceLT, Int.reduceLE, Int.reduceToNat, Int.reduceAdd, Int.reduceSub, Int.reduceNeg, Int.reduceMul, Int.reduceEq, ← Bool.decide_and, ← Bool.decide_or, ↓tq_n, ↓tq_e, ↓tq_r, ↓bq_n, ↓bq_e, ↓bq_r, ↓rq_n, ↓rq_r, ↓rq_e]
    exact ret_ok rfl
  have hc : (i : Int) < (l.length : Int) := by omega
  have hol := ordL_len y i
  simp only [hc, F_law_ColoringBoxesW, g_law_ColoringBoxesW, go_sem, reduceIte, Nat.reduceEqDiff, Nat.reduceAdd, Nat.reduceMul, Nat.reduceSub, reduceCtorEq, Nat.reduceLeDiff, Nat.reduceLT, Int.reduceLT, Int.reduceLE, Int.reduceToNat, Int.reduceAdd, Int.reduceSub, Int.reduceNeg, Int.reduceMul, Int.reduceEq, ← Bool.decide_and, ← Bool.decide_or, ↓tq_n, ↓tq_e, ↓tq_r, ↓bq_n, ↓bq_e, ↓bq_r, ↓rq_n, ↓rq_r, ↓rq_e]
  refine awp_loop (fun k : Nat => [(0, .sl nl l.length (prs l) tl), (3, .sl m1 e.length (prs e) w1), (5, I K), (7, I K), (8, I 0), (9, gl (i64s (nats (ordL y i))) i .unk), (10, I i), (11, I k)]) (fun _ => h') (fun k => k ≤ i ∧ cut y (y.getD i 0) (ordL y i) i = cut y (y.getD i 0) (ordL y i) k) (fun k => k) i ⟨Nat.le_refl _, rfl⟩ (GStep.forget (by repeat' first | exact EnvLe.nil _ | refine EnvLe.cons (AV.le.of_eq rfl) ?_ | refine EnvLe.cons (AV.le.undef _) ?_ | refine EnvLe.cons AV.le.unk ?_) (by repeat' first | exact AH.le.refl _ | assumption | (refine AH.le_put ?_ (by first | assumption | exact (AH.blk_put_ne _ _ (by assumption)).trans (by assumption) | exact AH.none_put (by assumption) | exact AH.none_put (AH.none_put (by assumption)) | (simp only [AH.blk_setTok, AH.tok_put] at *; first | assumption | exact AH.none_put (by assumption)))) | (refine AH.le_setTok ?_ (by first | assumption | exact (AH.blk_put_ne _ _ (by assumption)).trans (by assumption) | exact AH.none_put (by assumption) | exact AH.none_put (AH.none_put (by assumption)) | (simp only [AH.blk_setTok, AH.tok_put] at *; first | assumption | exact AH.none_put (by assumption)))) | (refine AH.le_putM ?_ (by first | assumption | exact (AH.mp_putM_ne _ _ (by assumption)).trans (by assumption) | (simp only [AH.mp_put, AH.mp_setTok] at *; assumption))))) fun k hk => .of_vg hm ?_
  obtain ⟨k1, k2'⟩ := hk
  have hnext : ∀ k, k ≤ i → cut y (y.getD i 0) (ordL y i) i = k → i64s (nats (ordL y (i + 1))) = List.take k (i64s (nats (ordL y i))) ++ (I i :: List.drop k (i64s (nats (ordL y i)))) := fun k hk hc => by
    have : ordL y (i + 1) = (ordL y i).take k ++ i :: (ordL y i).drop k := by rw [ordL]; unfold ins; rw [hol, hc]
    rw [this, nats_append, i64s_append, nats_take, i64s_take]
    have e : nats (i :: (ordL y i).drop k) = (i : Int) :: (nats (ordL y i)).drop k := by rw [← nats_drop]; rfl
    rw [e]
    show _ ++ (I i :: i64s ((nats (ordL y i)).drop k)) = _
    rw [i64s_dropn]
  have hlen : (i64s (nats (ordL y i))).length = i := by rw [i64s_len, nats_len, hol]
  cases k with
  | zero =>
    have hc0 : ¬ (0 : Int) < ((0 : Nat) : Int) := by omega
    have z0 : ((0 : Nat) : Int).toNat = 0 := rfl
    have hn0 := hnext 0 (by omega) (by rw [k2']; rfl)
    simp only [hc0, z0, gl, hlen, Nat.sub_zero, F_law_ColoringBoxesW, g_law_ColoringBoxesW, go_sem, reduceIte, Nat.reduceEqDiff, Nat.reduceAdd, Nat.reduceMul, Nat.reduceSub, reduceCtorEq, Nat.reduceLeDiff, Nat.reduceLT, Int.reduceLT, Int.reduceLE, Int.reduceToNat, Int.reduceAdd, Int.reduceSub, Int.reduceNeg, Int.reduceMul, Int.reduceEq, ← Bool.decide_and, ← Bool.decide_or, ↓tq_n, ↓tq_e, ↓tq_r, ↓bq_n, ↓bq_e, ↓bq_r, ↓rq_n, ↓rq_r, ↓rq_e]
    refine ⟨Nat.zero_le _, Nat.zero_le _, TokG.mk fun tk ht => ?_⟩
    simp only [hlen, Nat.sub_zero, F_law_ColoringBoxesW, g_law_ColoringBoxesW, go_sem, reduceIte, Nat.reduceEqDiff, Nat.reduceAdd, Nat.reduceMul, Nat.reduceSub, reduceCtorEq, Nat.reduceLeDiff, Nat.reduceLT, Int.reduceLT, Int.reduceLE, Int.reduceToNat, Int.reduceAdd, Int.reduceSub, Int.reduceNeg, Int.reduceMul, Int.reduceEq, ← Bool.decide_and, ← Bool.decide_or, ↓tq_n, ↓tq_e, ↓tq_r, ↓bq_n, ↓bq_e, ↓bq_r, ↓rq_n, ↓rq_r, ↓rq_e]
    have ht0 : List.take i (i64s (nats (ordL y i))) = i64s (nats (ordL y i)) := List.take_of_length_le (by omega)
    rw [ht0]
    refine ⟨by omega, by omega, by omega, by rw [inR64]; omega, i + 1, by omega, by omega, ?_⟩
    rw [show gl (i64s (nats (ordL y (i + 1)))) (i + 1) .unk = .sl false (i + 1) (i64s (nats (ordL y (i + 1)))) .unk from gl_pos2 (by omega), hn0]
    simp only [List.take_zero, List.nil_append, List.drop_zero, Nat.add_comm 1 i, Bool.false_and, List.singleton_append, Nat.zero_add]
    exact (GStep.forget (by repeat' first | exact EnvLe.nil _ | refine EnvLe.cons (AV.le.of_eq rfl) ?_ | refine EnvLe.cons (AV.le.undef _) ?_ | refine EnvLe.cons AV.le.unk ?_) (by repeat' first | exact AH.le.refl _ | assumption | (refine AH.le_put ?_ (by first | assumption | exact (AH.blk_put_ne _ _ (by assumption)).trans (by assumption) | exact AH.none_put (by assumption) | exact AH.none_put (AH.none_put (by assumption)) | (simp only [AH.blk_setTok, AH.tok_put] at *; first | assumption | exact AH.none_put (by assumption)))) | (refine AH.le_setTok ?_ (by first | assumption | exact (AH.blk_put_ne _ _ (by assumption)).trans (by assumption) | exact AH.none_put (by assumption) | exact AH.none_put (AH.none_put (by assumption)) | (simp only [AH.blk_setTok, AH.tok_put] at *; first | assumption | exact AH.none_put (by assumption)))) | (refine AH.le_putM ?_ (by first | assumption | exact (AH.mp_putM_ne _ _ (by assumption)).trans (by assumption) | (simp only [AH.mp_put, AH.mp_setTok] at *; assumption)))))
  | succ k =>
    have hc0 : (0 : Int) < ((k + 1 : Nat) : Int) := by omega
    have hkm : ((k + 1 : Nat) : Int) - 1 = (k : Int) := by omega
    have hik : InR .i64 (k : Int) := by rw [inR64]; omega
    have hck : (k : Int) < (i : Int) := by omega
    obtain ⟨o, ho⟩ : ∃ o, o = (ordL y i).getD k 0 := ⟨_, rfl⟩
    have hlt : o < i := by
      have : (ordL y i).getD k 0 ∈ ordL y i := mem_getD (by omega)
      rw [← ho] at this
      exact ordL_mem.1 this
    have hd : (i64s (nats (ordL y i))).drop k = I o :: (i64s (nats (ordL y i))).drop (k + 1) := by
      rw [i64s_drop (by rw [nats_len]; omega), nats_get (by omega), ← ho]
    have hco : (o : Int) < (l.length : Int) := by omega
    have hcut : cut y (y.getD i 0) (ordL y i) (k + 1) = if y.getD i 0 < y.getD o 0 then cut y (y.getD i 0) (ordL y i) k else k + 1 := by rw [cut, ← ho]
    have hkt : ((k + 1 : Nat) : Int).toNat = k + 1 := by omega
    have hk0 : (0 : Int) ≤ ((k + 1 : Nat) : Int) := by omega
    rw [hyg, hyg] at hcut
    rw [hyg] at k2'
    by_cases h4 : (l.getD i (0, 0)).1 < (l.getD o (0, 0)).1
    · rw [if_pos h4] at hcut
      simp only [hc0, hkm, hik, hck, hd, hco, hc, prs_drop (e := l) (i := o) (by omega), prs_drop (e := l) (i := i) (by omega), h4, F_law_ColoringBoxesW, g_law_ColoringBoxesW, go_sem, reduceIte, Nat.reduceEqDiff, Nat.reduceAdd, Nat.reduceMul, Nat.reduceSub, reduceCtorEq, Nat.reduceLeDiff, Nat.reduceLT, Int.reduceLT, Int.reduceLE, Int.reduceToNat, Int.reduceAdd, Int.reduceSub, Int.reduceNeg, Int.reduceMul, Int.reduceEq, ← Bool.decide_and, ← Bool.decide_or, ↓tq_n, ↓tq_e, ↓tq_r, ↓bq_n, ↓bq_e, ↓bq_r, ↓rq_n, ↓rq_r, ↓rq_e]
      exact ⟨k, ⟨by omega, by rw [hyg, k2', hcut]⟩, by omega, (GStep.forget (by repeat' first | exact EnvLe.nil _ | refine EnvLe.cons (AV.le.of_eq rfl) ?_ | refine EnvLe.cons (AV.le.undef _) ?_ | refine EnvLe.cons AV.le.unk ?_) (by repeat' first | exact AH.le.refl _ | assumption | (refine AH.le_put ?_ (by first | assumption | exact (AH.blk_put_ne _ _ (by assumption)).trans (by assumption) | exact AH.none_put (by assumption) | exact AH.none_put (AH.none_put (by assumption)) | (simp only [AH.blk_setTok, AH.tok_put] at *; first | assumption | exact AH.none_put (by assumption)))) | (refine AH.le_setTok ?_ (by first | assumption | exact (AH.blk_put_ne _ _ (by assumption)).trans (by assumption) | exact AH.none_put (by assumption) | exact AH.none_put (AH.none_put (by assumption)) | (simp only [AH.blk_setTok, AH.tok_put] at *; first | assumption | exact AH.none_put (by assumption)))) | (refine AH.le_putM ?_ (by first | assumption | exact (AH.mp_putM_ne _ _ (by assumption)).trans (by assumption) | (simp only [AH.mp_put, AH.mp_setTok] at *; assumption)))))⟩
    · rw [if_neg h4] at hcut
      have hn0 := hnext (k + 1) (by omega) (by rw [hyg, k2', hcut])
      have hlt1 : (List.take (k + 1) (i64s (nats (ordL y i)))).length = k + 1 := by rw [List.length_take, hlen]; omega
      have hlt2 : (List.take (i - (k + 1)) (List.drop (k + 1) (i64s (nats (ordL y i))))).length = i - (k + 1) := by rw [List.length_take, List.length_drop, hlen]; omega
      simp only [hc0, hkm, hik, hck, hd, hco, hc, prs_drop (e := l) (i := o) (by omega), prs_drop (e := l) (i := i) (by omega), h4, gl, hkt, hk0, hlt1, Nat.sub_zero, F_law_ColoringBoxesW, g_law_ColoringBoxesW, go_sem, reduceIte, Nat.reduceEqDiff, Nat.reduceAdd, Nat.reduceMul, Nat.reduceSub, reduceCtorEq, Nat.reduceLeDiff, Nat.reduceLT, Int.reduceLT, Int.reduceLE, Int.reduceToNat, Int.reduceAdd, Int.reduceSub, Int.reduceNeg, Int.reduceMul, Int.reduceEq, ← Bool.decide_and, ← Bool.decide_or, ↓tq_n, ↓tq_e, ↓tq_r, ↓bq_n, ↓bq_e, ↓bq_r, ↓rq_n, ↓rq_r, ↓rq_e]
      refine ⟨by omega, by omega, by omega, by omega, TokG.mk fun tk ht => ?_⟩
      simp only [hlt1, hlt2, hkt, hk0, F_law_ColoringBoxesW, g_law_ColoringBoxesW, go_sem, reduceIte, Nat.reduceEqDiff, Nat.reduceAdd, Nat.reduceMul, Nat.reduceSub, reduceCtorEq, Nat.reduceLeDiff, Nat.reduceLT, Int.reduceLT, Int.reduceLE, Int.reduceToNat, Int.reduceAdd, Int.reduceSub, Int.reduceNeg, Int.reduceMul, Int.reduceEq, ← Bool.decide_and, ← Bool.decide_or, ↓tq_n, ↓tq_e, ↓tq_r, ↓bq_n, ↓bq_e, ↓bq_r, ↓rq_n, ↓rq_r, ↓rq_e]
      have ht' : List.take (i - (k + 1)) (List.drop (k + 1) (i64s (nats (ordL y i)))) = List.drop (k + 1) (i64s (nats (ordL y i))) := List.take_of_length_le (by rw [List.length_drop, hlen]; omega)
      refine ⟨by omega, by omega, by simp [hlt1], by omega, by omega, by rw [inR64]; omega, i + 1, by omega, by omega, ?_⟩
      rw [show gl (i64s (nats (ordL y (i + 1)))) (i + 1) .unk = .sl false (i + 1) (i64s (nats (ordL y (i + 1)))) .unk from gl_pos2 (by omega), hn0, show k + 1 + 1 + (i - (k + 1)) = i + 1 by omega]
      simp only [ht', Bool.false_and, List.append_assoc, List.singleton_append]
      exact (GStep.forget (by repeat' first | exact EnvLe.nil _ | refine EnvLe.cons (AV.le.of_eq rfl) ?_ | refine EnvLe.cons (AV.le.undef _) ?_ | refine EnvLe.cons AV.le.unk ?_) (by repeat' first | exact AH.le.refl _ | assumption | (refine AH.le_put ?_ (by first | assumption | exact (AH.blk_put_ne _ _ (by assumption)).trans (by assumption) | exact AH.none_put (by assumption) | exact AH.none_put (AH.none_put (by assumption)) | (simp only [AH.blk_setTok, AH.tok_put] at *; first | assumption | exact AH.none_put (by assumption)))) | (refine AH.le_setTok ?_ (by first | assumption | exact (AH.blk_put_ne _ _ (by assumption)).trans (by assumption) | exact AH.none_put (by assumption) | exact AH.none_put (AH.none_put (by assumption)) | (simp only [AH.blk_setTok, AH.tok_put] at *; first | assumption | exact AH.none_put (by assumption)))) | (refine AH.le_putM ?_ (by first | assumption | exact (AH.mp_putM_ne _ _ (by assumption)).trans (by assumption) | (simp only [AH.mp_put, AH.mp_setTok] at *; assumption)))))
end Go.Proofs.Yticiimmfjdkimaa
