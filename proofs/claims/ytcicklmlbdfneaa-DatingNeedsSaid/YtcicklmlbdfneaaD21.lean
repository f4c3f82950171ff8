/- Calls of functions of this seat's program: the law DatingNeeds. No condition. -/
import Derived.Test.YtcicklmlbdfneaaD19
import Derived.Test.YtcicklmlbdfneaaD18
namespace Go.Proofs.Ytcicklmlbdfneaa
open Go Go.Abs
set_option linter.unusedSimpArgs false
set_option linter.unusedVariables false
set_option maxRecDepth 20000

/-- Places, by members. -/
def Pm (c : Cr) (l : List Int) : Prop := ∀ x ∈ l, 0 ≤ x ∧ x < c.ho.length
theorem pl_pm {c : Cr} {l : List Int} (h : Pl c l) : Pm c l := fun x hx => by
  obtain ⟨j, hj, rfl⟩ := List.getElem_of_mem hx
  have := h j hj
  simpa [List.getD, hj] using this
theorem pm_pl {c : Cr} {l : List Int} (h : Pm c l) : Pl c l := fun i hi => h _ (mem_getD hi)
theorem only_get {c : Cr} {l : List Int} {i : Nat} (hi : i < l.length) : (onlyC c l).ho.getD i dH = c.ho.getD (l.getD i 0).toNat dH := by simp [onlyC, List.getD, hi]
/-- With fewer hoards there are at least the datings that there were. -/
theorem only_mono {c : Cr} (hv : VC c) {l1 l2 : List Int} (h1 : l1.length ≤ 6) (p1 : Pm c l1) (h2 : l2.length ≤ 6) (p2 : Pm c l2) (hs : ∀ x ∈ l2, x ∈ l1) (ho : Ok (onlyC c l1)) : Ok (onlyC c l2) := by
  have v1 := only_vc hv h1 (pm_pl p1)
  have v2 := only_vc hv h2 (pm_pl p2)
  obtain ⟨t, h, hd⟩ := (ok_iff v1).1 ho
  obtain ⟨_, d2, d3, d4, d5, d6⟩ := hd
  have ll1 : (onlyC c l1).ho.length = l1.length := by simp [onlyC]
  have ll2 : (onlyC c l2).ho.length = l2.length := by simp [onlyC]
  refine (ok_iff v2).2 ⟨t, l2.map fun x => h.getD (l1.idxOf x) 0, v2, d2, by simp [onlyC], d4, fun i hi => ?_, d6⟩
  rw [ll2] at hi
  have hm := hs _ (mem_getD (d := (0 : Int)) hi)
  have hj : l1.idxOf (l2.getD i 0) < l1.length := List.idxOf_lt_length_of_mem hm
  have e1 : l1.getD (l1.idxOf (l2.getD i 0)) 0 = l2.getD i 0 := by
    generalize hz : l2.getD i 0 = z at *
    rw [List.getD_eq_getElem?_getD, List.getElem?_eq_getElem hj, Option.getD_some]
    exact List.getElem_idxOf hj
  have e2 : (l2.map fun x => h.getD (l1.idxOf x) 0).getD i 0 = h.getD (l1.idxOf (l2.getD i 0)) 0 := by simp [List.getD, hi]
  have := d5 (l1.idxOf (l2.getD i 0)) (by rw [ll1]; exact hj)
  rw [only_get hj, e1] at this
  rw [only_get hi, e2]
  exact this

theorem mem_rI {k : Nat} {x : Int} : x ∈ rI k ↔ 0 ≤ x ∧ x < k := by
  simp only [rI, List.mem_map, List.mem_range]
  constructor
  · rintro ⟨a, h, rfl⟩; omega
  · rintro ⟨h1, h2⟩; exact ⟨x.toNat, by omega, by omega⟩
structure NI (c : Cr) (k : Nat) (rest : List Int) : Prop where
  len : k + rest.length ≤ 6
  kn : k ≤ c.ho.length
  pm : Pm c rest
  no : ¬ Ok (onlyC c (rI k ++ rest))
  yes : ∀ x ∈ rest, Ok (onlyC c ((rI k ++ rest).filter fun y => decide (y ≠ x)))
  asc : rest.Pairwise (· < ·)
  low : ∀ x ∈ rest, (k : Int) ≤ x
theorem NI.pmAll {c : Cr} {k : Nat} {rest : List Int} (h : NI c k rest) : Pm c (rI k ++ rest) := fun x hx => by
  rcases List.mem_append.1 hx with hx | hx
  · have := mem_rI.1 hx
    have := h.kn
    omega
  · exact h.pm x hx
theorem NI.lenAll {c : Cr} {k : Nat} {rest : List Int} (h : NI c k rest) : (rI k ++ rest).length ≤ 6 := by rw [List.length_append, rI_len]; exact h.len
theorem need_NI {c : Cr} (hv : VC c) : ∀ (k : Nat) (rest : List Int), NI c k rest → NI c 0 (need c k rest) := by
  intro k
  induction k with
  | zero => intro rest h; exact h
  | succ k ih =>
    intro rest h
    have hl := h.lenAll
    have hp := h.pmAll
    have hll : (rI k ++ rest).length ≤ 6 := by
      have := h.len
      rw [List.length_append, rI_len]; omega
    have hpl : Pm c (rI k ++ rest) := fun x hx => by
      rcases List.mem_append.1 hx with hx | hx
      · have := mem_rI.1 hx
        have := h.kn
        omega
      · exact h.pm x hx
    have e6 : rI k ++ (k : Int) :: rest = rI (k + 1) ++ rest := by rw [rI_succ]; simp
    unfold need
    split
    · rename_i hok
      refine ih _ ⟨by have := h.len; simp only [List.length_cons]; omega, by have := h.kn; omega, fun x hx => ?_, by rw [e6]; exact h.no, fun x hx => ?_, ?_, fun x hx => ?_⟩
      · rcases List.mem_cons.1 hx with rfl | hx
        · have := h.kn; omega
        · exact h.pm x hx
      · rw [e6]
        rcases List.mem_cons.1 hx with rfl | hx
        · refine only_mono hv hll hpl (Nat.le_trans (List.length_filter_le _ _) hl) (fun y hy => hp y ((List.mem_filter.1 hy).1)) (fun y hy => ?_) hok
          obtain ⟨y1, y2⟩ := List.mem_filter.1 hy
          have y2 : y ≠ (k : Int) := of_decide_eq_true y2
          rcases List.mem_append.1 y1 with y1 | y1
          · have := mem_rI.1 y1
            exact List.mem_append_left _ (mem_rI.2 (by omega))
          · exact List.mem_append_right _ y1
        · exact h.yes x hx
      · exact List.pairwise_cons.2 ⟨fun y hy => by have := h.low y hy; omega, h.asc⟩
      · rcases List.mem_cons.1 hx with rfl | hx
        · exact Int.le_refl _
        · have := h.low x hx; omega
    · rename_i hok
      refine ih _ ⟨by have := h.len; omega, by have := h.kn; omega, h.pm, hok, fun x hx => ?_, h.asc, fun x hx => by have := h.low x hx; omega⟩
      refine only_mono hv (Nat.le_trans (List.length_filter_le _ _) hl) (fun y hy => hp y ((List.mem_filter.1 hy).1)) (Nat.le_trans (List.length_filter_le _ _) hll) (fun y hy => hpl y ((List.mem_filter.1 hy).1)) (fun y hy => ?_) (h.yes x hx)
      obtain ⟨y1, y2⟩ := List.mem_filter.1 hy
      refine List.mem_filter.2 ⟨?_, y2⟩
      rcases List.mem_append.1 y1 with y1 | y1
      · have := mem_rI.1 y1
        exact List.mem_append_left _ (mem_rI.2 (by omega))
      · exact List.mem_append_right _ y1
theorem only_all (c : Cr) : Ok (onlyC c (rI c.ho.length)) = Ok c := by
  refine ok_congr rfl ?_ rfl
  refine List.ext_getElem (by simp [onlyC, rI]) fun i h1 h2 => ?_
  simp [onlyC, rI, h2]
/-- The needed hoards. -/
theorem need_spec {c : Cr} (hv : VC c) (ho : ¬ Ok c) : ∃ f, f = need c c.ho.length [] ∧ f.length ≤ 6 ∧ Pm c f ∧ ¬ Ok (onlyC c f) ∧ Asc f 0 ((c.ho.length : Int) - 1) ∧ ∀ i, i < f.length → Ok (onlyC c (f.eraseIdx i)) := by
  have h0 : NI c c.ho.length [] := ⟨by have := hv.1.2.1; simp only [List.length_nil]; omega, Nat.le_refl _, by simp [Pm], by rw [List.append_nil, only_all]; exact ho, by simp, .nil, by simp⟩
  have h1 := need_NI hv _ _ h0
  generalize need c c.ho.length [] = f at *
  have hlen := h1.len
  have e0 : rI 0 ++ f = f := by simp [rI]
  refine ⟨f, rfl, by omega, h1.pm, by have := h1.no; rwa [e0] at this, fun i hi => ⟨?_, fun h0 => ?_⟩, fun i hi => ?_⟩
  · have := h1.pm _ (mem_getD (d := (0 : Int)) hi)
    omega
  · have := List.pairwise_iff_getElem.1 h1.asc (i - 1) i (by omega) hi (by omega)
    simpa [List.getD, hi, show i - 1 < f.length by omega] using this
  · have hy := h1.yes _ (mem_getD (d := (0 : Int)) hi)
    rw [e0] at hy
    have pf : Pm c (f.filter fun y => decide (y ≠ f.getD i 0)) := fun y hy => h1.pm y ((List.mem_filter.1 hy).1)
    have pe : Pm c (f.eraseIdx i) := fun y hy => h1.pm y (List.mem_of_mem_eraseIdx hy)
    refine only_mono hv (Nat.le_trans (List.length_filter_le _ _) (by omega)) pf (Nat.le_trans (List.length_eraseIdx_le _ _) (by omega)) pe (fun y hy2 => ?_) hy
    refine List.mem_filter.2 ⟨List.mem_of_mem_eraseIdx hy2, decide_eq_true fun hh => ?_⟩
    obtain ⟨j, hj, hji⟩ := List.mem_eraseIdx_iff_getElem.1 hy2
    have hne : j ≠ i := by rcases hji with ⟨hji, _⟩; exact hji
    rcases hji with ⟨_, hje⟩
    have hgi : f.getD i 0 = f[i] := by simp [List.getD, hi]
    rw [hgi, ← hje] at hh
    rcases Nat.lt_or_gt_of_ne hne with hlt | hgt
    · have := List.pairwise_iff_getElem.1 h1.asc j i hj hi hlt
      omega
    · have := List.pairwise_iff_getElem.1 h1.asc i j hi hj hgt
      omega

theorem r_law_DatingNeeds (c : Cr) (h : AH) : RCall Try.prog n_law_DatingNeeds [.st c.cs] h (.bool true) := by
  refine RCall.of hm cF_law_DatingNeeds (by simp [g_law_DatingNeeds]) fun hw h' hl => ?_
  simp only [Cr.cs, F_law_DatingNeeds, g_law_DatingNeeds, go_sem, reduceIte, Nat.reduceEqDiff, Nat.reduceAdd, Nat.reduceMul, Nat.reduceSub, reduceCtorEq, Nat.reduceLeDiff, Nat.reduceLT, Int.reduceLT, Int.reduceLE, Int.reduceToNat, Int.reduceAdd, Int.reduceSub, Int.reduceNeg, Int.reduceMul, Int.reduceEq, ← Bool.decide_and, ← Bool.decide_or, ↓tq_n, ↓tq_e, ↓tq_r, ↓bq_n, ↓bq_e, ↓bq_r, ↓rq_n, ↓rq_r, ↓rq_e]
  refine CallG.mk (r_law_awake _) ?_
  simp only [F_law_DatingNeeds, g_law_DatingNeeds, go_sem, reduceIte, Nat.reduceEqDiff, Nat.reduceAdd, Nat.reduceMul, Nat.reduceSub, reduceCtorEq, Nat.reduceLeDiff, Nat.reduceLT, Int.reduceLT, Int.reduceLE, Int.reduceToNat, Int.reduceAdd, Int.reduceSub, Int.reduceNeg, Int.reduceMul, Int.reduceEq, ← Bool.decide_and, ← Bool.decide_or, ↓tq_n, ↓tq_e, ↓tq_r, ↓bq_n, ↓bq_e, ↓bq_r, ↓rq_n, ↓rq_r, ↓rq_e]
  refine CallG.mk (r_law_few c _) ?_
  simp only [F_law_DatingNeeds, g_law_DatingNeeds, go_sem, reduceIte, Nat.reduceEqDiff, Nat.reduceAdd, Nat.reduceMul, Nat.reduceSub, reduceCtorEq, Nat.reduceLeDiff, Nat.reduceLT, Int.reduceLT, Int.reduceLE, Int.reduceToNat, Int.reduceAdd, Int.reduceSub, Int.reduceNeg, Int.reduceMul, Int.reduceEq, ← Bool.decide_and, ← Bool.decide_or, ↓tq_n, ↓tq_e, ↓tq_r, ↓bq_n, ↓bq_e, ↓bq_r, ↓rq_n, ↓rq_r, ↓rq_e]
  refine ⟨fun h1 => CallG.mk (r_law_awake _) ?_, fun h1 => CallG.mk (r_ref_Valid c _) ?_⟩
  · simp only [F_law_DatingNeeds, g_law_DatingNeeds, go_sem, reduceIte, Nat.reduceEqDiff, Nat.reduceAdd, Nat.reduceMul, Nat.reduceSub, reduceCtorEq, Nat.reduceLeDiff, Nat.reduceLT, Int.reduceLT, Int.reduceLE, Int.reduceToNat, Int.reduceAdd, Int.reduceSub, Int.reduceNeg, Int.reduceMul, Int.reduceEq, ← Bool.decide_and, ← Bool.decide_or, ↓tq_n, ↓tq_e, ↓tq_r, ↓bq_n, ↓bq_e, ↓bq_r, ↓rq_n, ↓rq_r, ↓rq_e]; exact ret_ok rfl
  by_cases hv : VC c
  case neg =>
    simp only [decide_eq_false hv, F_law_DatingNeeds, g_law_DatingNeeds, go_sem, reduceIte, Nat.reduceEqDiff, Nat.reduceAdd, Nat.reduceMul, Nat.reduceSub, reduceCtorEq, Nat.reduceLeDiff, Nat.reduceLT, Int.reduceLT, Int.reduceLE, Int.reduceToNat, Int.reduceAdd, Int.reduceSub, Int.reduceNeg, Int.reduceMul, Int.reduceEq, ← Bool.decide_and, ← Bool.decide_or, ↓tq_n, ↓tq_e, ↓tq_r, ↓bq_n, ↓bq_e, ↓bq_r, ↓rq_n, ↓rq_r, ↓rq_e]
    refine CallG.mk (r_law_awake _) ?_
    simp only [F_law_DatingNeeds, g_law_DatingNeeds, go_sem, reduceIte, Nat.reduceEqDiff, Nat.reduceAdd, Nat.reduceMul, Nat.reduceSub, reduceCtorEq, Nat.reduceLeDiff, Nat.reduceLT, Int.reduceLT, Int.reduceLE, Int.reduceToNat, Int.reduceAdd, Int.reduceSub, Int.reduceNeg, Int.reduceMul, Int.reduceEq, ← Bool.decide_and, ← Bool.decide_or, ↓tq_n, ↓tq_e, ↓tq_r, ↓bq_n, ↓bq_e, ↓bq_r, ↓rq_n, ↓rq_r, ↓rq_e]
    exact ret_ok rfl
  simp only [decide_eq_true hv, F_law_DatingNeeds, g_law_DatingNeeds, go_sem, reduceIte, Nat.reduceEqDiff, Nat.reduceAdd, Nat.reduceMul, Nat.reduceSub, reduceCtorEq, Nat.reduceLeDiff, Nat.reduceLT, Int.reduceLT, Int.reduceLE, Int.reduceToNat, Int.reduceAdd, Int.reduceSub, Int.reduceNeg, Int.reduceMul, Int.reduceEq, ← Bool.decide_and, ← Bool.decide_or, ↓tq_n, ↓tq_e, ↓tq_r, ↓bq_n, ↓bq_e, ↓bq_r, ↓rq_n, ↓rq_r, ↓rq_e]
  refine CallG.mk (r_dating_Needed c _) ?_
  unfold needV
  by_cases ho : Ok c
  case pos =>
    simp only [hv, ho, if_true]
    simp only [F_law_DatingNeeds, g_law_DatingNeeds, go_sem, reduceIte, Nat.reduceEqDiff, Nat.reduceAdd, Nat.reduceMul, Nat.reduceSub, reduceCtorEq, Nat.reduceLeDiff, Nat.reduceLT, Int.reduceLT, Int.reduceLE, Int.reduceToNat, Int.reduceAdd, Int.reduceSub, Int.reduceNeg, Int.reduceMul, Int.reduceEq, ← Bool.decide_and, ← Bool.decide_or, ↓tq_n, ↓tq_e, ↓tq_r, ↓bq_n, ↓bq_e, ↓bq_r, ↓rq_n, ↓rq_r, ↓rq_e]
    refine CallG.mk (r_dating_Some c _) ?_
    unfold endsV
    simp only [hv, ho, if_true]
    simp only [F_law_DatingNeeds, g_law_DatingNeeds, go_sem, reduceIte, Nat.reduceEqDiff, Nat.reduceAdd, Nat.reduceMul, Nat.reduceSub, reduceCtorEq, Nat.reduceLeDiff, Nat.reduceLT, Int.reduceLT, Int.reduceLE, Int.reduceToNat, Int.reduceAdd, Int.reduceSub, Int.reduceNeg, Int.reduceMul, Int.reduceEq, ← Bool.decide_and, ← Bool.decide_or, ↓tq_n, ↓tq_e, ↓tq_r, ↓bq_n, ↓bq_e, ↓bq_r, ↓rq_n, ↓rq_r, ↓rq_e]
    exact ret_ok rfl
  obtain ⟨f, hf, f6, fp, fno, fasc, fyes⟩ := need_spec hv ho
  rw [← hf]
  simp only [hv, ho, if_true, if_false]
  simp only [F_law_DatingNeeds, g_law_DatingNeeds, go_sem, reduceIte, Nat.reduceEqDiff, Nat.reduceAdd, Nat.reduceMul, Nat.reduceSub, reduceCtorEq, Nat.reduceLeDiff, Nat.reduceLT, Int.reduceLT, Int.reduceLE, Int.reduceToNat, Int.reduceAdd, Int.reduceSub, Int.reduceNeg, Int.reduceMul, Int.reduceEq, ← Bool.decide_and, ← Bool.decide_or, ↓tq_n, ↓tq_e, ↓tq_r, ↓bq_n, ↓bq_e, ↓bq_r, ↓rq_n, ↓rq_r, ↓rq_e]
  refine CallG.mk (r_dating_Some c _) ?_
  unfold endsV
  simp only [hv, ho, if_true, if_false]
  simp only [F_law_DatingNeeds, g_law_DatingNeeds, go_sem, reduceIte, Nat.reduceEqDiff, Nat.reduceAdd, Nat.reduceMul, Nat.reduceSub, reduceCtorEq, Nat.reduceLeDiff, Nat.reduceLT, Int.reduceLT, Int.reduceLE, Int.reduceToNat, Int.reduceAdd, Int.reduceSub, Int.reduceNeg, Int.reduceMul, Int.reduceEq, ← Bool.decide_and, ← Bool.decide_or, ↓tq_n, ↓tq_e, ↓tq_r, ↓bq_n, ↓bq_e, ↓bq_r, ↓rq_n, ↓rq_r, ↓rq_e]
  have b6 := hv.1.2.1
  refine ⟨by rw [inR64]; omega, CallG.mk (r_base_Ascending _ f _ 0 ((c.ho.length : Int) - 1) _) ?_⟩
  simp only [decide_eq_true fasc, F_law_DatingNeeds, g_law_DatingNeeds, go_sem, reduceIte, Nat.reduceEqDiff, Nat.reduceAdd, Nat.reduceMul, Nat.reduceSub, reduceCtorEq, Nat.reduceLeDiff, Nat.reduceLT, Int.reduceLT, Int.reduceLE, Int.reduceToNat, Int.reduceAdd, Int.reduceSub, Int.reduceNeg, Int.reduceMul, Int.reduceEq, ← Bool.decide_and, ← Bool.decide_or, ↓tq_n, ↓tq_e, ↓tq_r, ↓bq_n, ↓bq_e, ↓bq_r, ↓rq_n, ↓rq_r, ↓rq_e]
  refine CallG.mk (r_ref_Only c _ f _ (by omega) (pm_pl fp) _) ?_
  simp only [F_law_DatingNeeds, g_law_DatingNeeds, go_sem, reduceIte, Nat.reduceEqDiff, Nat.reduceAdd, Nat.reduceMul, Nat.reduceSub, reduceCtorEq, Nat.reduceLeDiff, Nat.reduceLT, Int.reduceLT, Int.reduceLE, Int.reduceToNat, Int.reduceAdd, Int.reduceSub, Int.reduceNeg, Int.reduceMul, Int.reduceEq, ← Bool.decide_and, ← Bool.decide_or, ↓tq_n, ↓tq_e, ↓tq_r, ↓bq_n, ↓bq_e, ↓bq_r, ↓rq_n, ↓rq_r, ↓rq_e]
  refine CallG.mk (r_dating_Some (onlyC c f) _) ?_
  have v1 := only_vc hv f6 (pm_pl fp)
  unfold endsV
  simp only [v1, fno, if_true, if_false]
  simp only [Cr.cs, F_law_DatingNeeds, g_law_DatingNeeds, go_sem, reduceIte, Nat.reduceEqDiff, Nat.reduceAdd, Nat.reduceMul, Nat.reduceSub, reduceCtorEq, Nat.reduceLeDiff, Nat.reduceLT, Int.reduceLT, Int.reduceLE, Int.reduceToNat, Int.reduceAdd, Int.reduceSub, Int.reduceNeg, Int.reduceMul, Int.reduceEq, ← Bool.decide_and, ← Bool.decide_or, ↓tq_n, ↓tq_e, ↓tq_r, ↓bq_n, ↓bq_e, ↓bq_r, ↓rq_n, ↓rq_r, ↓rq_e]
  refine awp_loop (fun i : Nat => [(1, .sptr c.cs), (3, .sl (decide (c.ho.length = 0)) f.length (i64s f) .unk), (11, I i)]) (fun _ => h') (fun i => i ≤ f.length) (fun i => f.length - i) 0 (Nat.zero_le _) (GStep.forget (by repeat' first | exact EnvLe.nil _ | refine EnvLe.cons (AV.le.of_eq rfl) ?_ | refine EnvLe.cons (AV.le.undef _) ?_ | refine EnvLe.cons AV.le.unk ?_) (by repeat' first | exact AH.le.refl _ | assumption | (refine AH.le_put ?_ (by first | assumption | exact (AH.blk_put_ne _ _ (by assumption)).trans (by assumption) | exact AH.none_put (by assumption) | exact AH.none_put (AH.none_put (by assumption)) | (simp only [AH.blk_setTok, AH.tok_put] at *; first | assumption | exact AH.none_put (by assumption)))) | (refine AH.le_setTok ?_ (by first | assumption | exact (AH.blk_put_ne _ _ (by assumption)).trans (by assumption) | exact AH.none_put (by assumption) | exact AH.none_put (AH.none_put (by assumption)) | (simp only [AH.blk_setTok, AH.tok_put] at *; first | assumption | exact AH.none_put (by assumption)))) | (refine AH.le_putM ?_ (by first | assumption | exact (AH.mp_putM_ne _ _ (by assumption)).trans (by assumption) | (simp only [AH.mp_put, AH.mp_setTok] at *; assumption))))) fun i hi => .of_vg hm ?_
  by_cases h4 : i < f.length
  · have hc3 : (i : Int) < (f.length : Int) := by omega
    have hc4 : ((i : Int) + 1).toNat = i + 1 := by omega
    have hel : (f.eraseIdx i).length = i + (f.length - (i + 1)) := by rw [List.length_eraseIdx, if_pos h4]; omega
    have hec : i64s (f.eraseIdx i) = List.take i (i64s f) ++ List.take (f.length - (i + 1)) (List.drop (i + 1) (i64s f)) := by
      rw [List.eraseIdx_eq_take_drop_succ, i64s_append, i64s_take, i64s_dropn, List.take_of_length_le (l := i64s (f.drop (i + 1))) (by rw [i64s_len, List.length_drop]; exact Nat.le_refl _)]
    have hik : InR .i64 ((i : Int) + 1) := by rw [inR64]; omega
    have hl1 : (List.take i (i64s f)).length = i := by rw [List.length_take, i64s_len]; omega
    have hl2 : (List.take (f.length - (i + 1)) (List.drop (i + 1) (i64s f))).length = f.length - (i + 1) := by rw [List.length_take, List.length_drop, i64s_len]; omega
    have pe : Pm c (f.eraseIdx i) := fun y hy => fp y (List.mem_of_mem_eraseIdx hy)
    have le6 : (f.eraseIdx i).length ≤ 6 := by omega
    simp only [hc3, hc4, Cr.cs, Nat.sub_zero, hl1, hik, F_law_DatingNeeds, g_law_DatingNeeds, go_sem, reduceIte, Nat.reduceEqDiff, Nat.reduceAdd, Nat.reduceMul, Nat.reduceSub, reduceCtorEq, Nat.reduceLeDiff, Nat.reduceLT, Int.reduceLT, Int.reduceLE, Int.reduceToNat, Int.reduceAdd, Int.reduceSub, Int.reduceNeg, Int.reduceMul, Int.reduceEq, ← Bool.decide_and, ← Bool.decide_or, ↓tq_n, ↓tq_e, ↓tq_r, ↓bq_n, ↓bq_e, ↓bq_r, ↓rq_n, ↓rq_r, ↓rq_e]
    refine ⟨by omega, by omega, by omega, by omega, by omega, by omega, TokG.mk fun t ht => ?_⟩
    simp only [hl1, hl2, ← hec, ← hel, F_law_DatingNeeds, g_law_DatingNeeds, go_sem, reduceIte, Nat.reduceEqDiff, Nat.reduceAdd, Nat.reduceMul, Nat.reduceSub, reduceCtorEq, Nat.reduceLeDiff, Nat.reduceLT, Int.reduceLT, Int.reduceLE, Int.reduceToNat, Int.reduceAdd, Int.reduceSub, Int.reduceNeg, Int.reduceMul, Int.reduceEq, ← Bool.decide_and, ← Bool.decide_or, ↓tq_n, ↓tq_e, ↓tq_r, ↓bq_n, ↓bq_e, ↓bq_r, ↓rq_n, ↓rq_r, ↓rq_e]
    refine ⟨by omega, by omega, CallG.mk (r_ref_Only c _ (f.eraseIdx i) _ (by omega) (pm_pl pe) _) ?_⟩
    simp only [F_law_DatingNeeds, g_law_DatingNeeds, go_sem, reduceIte, Nat.reduceEqDiff, Nat.reduceAdd, Nat.reduceMul, Nat.reduceSub, reduceCtorEq, Nat.reduceLeDiff, Nat.reduceLT, Int.reduceLT, Int.reduceLE, Int.reduceToNat, Int.reduceAdd, Int.reduceSub, Int.reduceNeg, Int.reduceMul, Int.reduceEq, ← Bool.decide_and, ← Bool.decide_or, ↓tq_n, ↓tq_e, ↓tq_r, ↓bq_n, ↓bq_e, ↓bq_r, ↓rq_n, ↓rq_r, ↓rq_e]
    refine CallG.mk (r_dating_Some (onlyC c (f.eraseIdx i)) _) ?_
    have v2 := only_vc hv le6 (pm_pl pe)
    unfold endsV
    simp only [v2, fyes i h4, if_true]
    simp only [F_law_DatingNeeds, g_law_DatingNeeds, go_sem, reduceIte, Nat.reduceEqDiff, Nat.reduceAdd, Nat.reduceMul, Nat.reduceSub, reduceCtorEq, Nat.reduceLeDiff, Nat.reduceLT, Int.reduceLT, Int.reduceLE, Int.reduceToNat, Int.reduceAdd, Int.reduceSub, Int.reduceNeg, Int.reduceMul, Int.reduceEq, ← Bool.decide_and, ← Bool.decide_or, ↓tq_n, ↓tq_e, ↓tq_r, ↓bq_n, ↓bq_e, ↓bq_r, ↓rq_n, ↓rq_r, ↓rq_e]
    refine ⟨hik, i + 1, by omega, by omega, (GStep.forget (by repeat' first | exact EnvLe.nil _ | refine EnvLe.cons (AV.le.of_eq rfl) ?_ | refine EnvLe.cons (AV.le.undef _) ?_ | refine EnvLe.cons AV.le.unk ?_) (by repeat' first | exact AH.le.refl _ | assumption | (refine AH.le_put ?_ (by first | assumption | exact (AH.blk_put_ne _ _ (by assumption)).trans (by assumption) | exact AH.none_put (by assumption) | exact AH.none_put (AH.none_put (by assumption)) | (simp only [AH.blk_setTok, AH.tok_put] at *; first | assumption | exact AH.none_put (by assumption)))) | (refine AH.le_setTok ?_ (by first | assumption | exact (AH.blk_put_ne _ _ (by assumption)).trans (by assumption) | exact AH.none_put (by assumption) | exact AH.none_put (AH.none_put (by assumption)) | (simp only [AH.blk_setTok, AH.tok_put] at *; first | assumption | exact AH.none_put (by assumption)))) | (refine AH.le_putM ?_ (by first | assumption | exact (AH.mp_putM_ne _ _ (by assumption)).trans (by assumption) | (simp only [AH.mp_put, AH.mp_setTok] at *; assumption)))))⟩
  have h4 : i = f.length := by omega
  subst h4
  simp only [F_law_DatingNeeds, g_law_DatingNeeds, go_sem, reduceIte, Nat.reduceEqDiff, Nat.reduceAdd, Nat.reduceMul, Nat.reduceSub, reduceCtorEq, Nat.reduceLeDiff, Nat.reduceLT, Int.reduceLT, Int.reduceLE, Int.reduceToNat, Int.reduceAdd, Int.reduceSub, Int.reduceNeg, Int.reduceMul, Int.reduceEq, ← Bool.decide_and, ← Bool.decide_or, ↓tq_n, ↓tq_e, ↓tq_r, ↓bq_n, ↓bq_e, ↓bq_r, ↓rq_n, ↓rq_r, ↓rq_e]
  exact ret_ok rfl
end Go.Proofs.Ytcicklmlbdfneaa
