/- Calls of functions of this seat's program: items in order. No condition. -/
import Derived.Test.YtkoecjhjdckgeaaD7
import Derived.Test.YtkoecjhjdckgeaaV7
namespace Go.Proofs.Ytkoecjhjdckgeaa
open Go Go.Abs Go.Shelf Go.Proofs Go.RowKit Go.Maps Go.Sort
set_option linter.unusedSimpArgs false
set_option linter.unusedVariables false
set_option maxRecDepth 100000

theorem trs_get {l : List It} {j : Nat} (h : j < l.length) : (trs l)[j * 3]? = some (I (l.getD j dI).1) ∧ (trs l)[j * 3 + 1]? = some (I (l.getD j dI).2.1) ∧ (trs l)[j * 3 + 2]? = some (I (l.getD j dI).2.2) := by
  have hd := trs_dropI h
  have g : ∀ k, ((trs l).drop (j * 3))[k]? = (trs l)[j * 3 + k]? := fun k => List.getElem?_drop
  have g0 := g 0
  have g1 := g 1
  have g2 := g 2
  rw [hd] at g0 g1 g2
  exact ⟨g0.symm, g1.symm, g2.symm⟩
set_option maxHeartbeats 2000000 in
theorem r_slices_SortedFunc (nl : Bool) (xs : List It) (tl : Tail) (hz : ∀ x ∈ xs, InR .i64 x.1 ∧ InR .i64 x.2.1 ∧ InR .i64 x.2.2) (hln : xs.length ≤ 1000000) (h : AH) :
    RCall Try.prog 37 [.fn 50 [.sptr [.sl nl xs.length (trs xs) tl]], .fn 39 []] h (.sl (decide (tallL xs = [])) (tallL xs).length (trs (tallL xs)) .unk) := by
  refine rcall_of_row3 (t := 38) (fun x hx => hz x ((tallL_perm xs).mem_iff.1 hx)) (by kernel_rfl) (fun s h vs w hv hs => ?_) h
  obtain ⟨v, hv0, hr⟩ := hv.at_ (j := 0) rfl
  obtain ⟨v', hv1', hr'⟩ := hv.at_ (j := 1) rfl
  have hvs : vs = [v, v'] := by
    match vs, hv.1, hv0, hv1' with
    | [u, u'], _, h, h' => simp at h h'; rw [h, h']
  subst hvs
  obtain ⟨cs', rfl, hcs'⟩ := hr'.fn_inv
  have hcs0 : cs' = [] := List.eq_nil_of_length_eq_zero hcs'.1
  subst hcs0
  obtain ⟨cs, rfl, hcs⟩ := hr.fn_inv
  obtain ⟨v1, hv1, hr1⟩ := hcs.at_ (j := 0) rfl
  have hcs1 : cs = [v1] := by
    match cs, hcs.1, hv1 with
    | [u], _, h => simp at h; rw [h]
  subst hcs1
  obtain ⟨ad, us, rfl, hsp, hus, hfx⟩ := hr1.sptr_inv
  obtain ⟨sv, hu0, hr2⟩ := hus.at_ (j := 0) rfl
  obtain ⟨B, o, sp⟩ := ad
  simp only at hsp
  subst hsp
  have hcell := (hs.fx _ _ _ (hfx 0 sv hu0)).1
  simp only [Nat.add_zero] at hcell
  have hBlt : B < w.heap.size := lt_of_cell hcell
  have hseq : SeqV3 Fence.wide (4 - 1 - 1 - 1) 50 #[.pointer (some ⟨B, o, none⟩)] xs w := by
    intro l J W hJ hSt hY h0
    obtain ⟨a, cap, ws, rfl, hws, hfx2, _⟩ := hr2.sl_inv
    rcases Nat.eq_zero_or_pos xs.length with hz0 | hpos
    · have hx0 : xs = [] := List.eq_nil_of_length_eq_zero hz0
      subst hx0
      exact vals3_none Fence.wide _ trivial rfl l B o w.heap.size cap a hBlt w J hJ W hcell h0
    · have hwl : ws.length = xs.length * 3 := by rw [hws.1, trs_len]
      obtain ⟨ad2, e2, sp2, _⟩ := hfx2 0 (ws[0]'(by omega)) (by simp)
      obtain ⟨b, off, sp3⟩ := ad2
      simp only at sp2
      subst sp2
      subst e2
      have key : ∀ j z, (trs xs)[j]? = some (I z) → w.cell? ⟨b, off + j, none⟩ = some (.int .i64 z) := fun j z hjz => by
        obtain ⟨u, u1, u2⟩ := hws.at_ hjz
        obtain ⟨rfl, _⟩ := u2.int_inv
        obtain ⟨ad3, e3, _, f3⟩ := hfx2 j _ u1
        cases e3
        exact (hs.fx _ _ _ f3).1
      have hcx : ∀ j, j < xs.length → w.cell? ⟨b, off + j * 3, none⟩ = some (.int .i64 (xs.getD j (0, 0, 0)).1) ∧ w.cell? ⟨b, off + j * 3 + 1, none⟩ = some (.int .i64 (xs.getD j (0, 0, 0)).2.1) ∧ w.cell? ⟨b, off + j * 3 + 2, none⟩ = some (.int .i64 (xs.getD j (0, 0, 0)).2.2) := fun j hj => by
        obtain ⟨t1, t2, t3⟩ := trs_get hj
        exact ⟨key _ _ t1, key _ _ t2, key _ _ t3⟩
      have := vals3_some Fence.wide _ trivial rfl (by omega) l B o w.heap.size b off xs.length cap xs (by omega) (lt_of_cell (hcx 0 hpos).1) hBlt w J hJ hSt hY W hcell hcx h0
      rw [upto3_all] at this
      exact this
  have cS := sortedFunc3 4 (by omega) 50 #[.pointer (some ⟨B, o, none⟩)] (enters_of Try.func50 (by kernel_rfl) rfl) xs (by simp only [maxLen]; omega) (by omega) w hseq
  have cS' := callsIn_wide.1 cS
  refine cS'.mono ?_
  rintro e w' ⟨v, rfl, h1, h2, h3⟩
  rw [tallL_len]
  refine ⟨v, rfl, h1, ?_, h3⟩
  rw [h2]
  constructor
  · intro hh; subst hh; exact List.eq_nil_of_length_eq_zero (by rw [tallL_len]; rfl)
  · intro hh; exact List.eq_nil_of_length_eq_zero (by rw [← tallL_len, hh]; rfl)

theorem r_slices_Values (nl : Bool) (l : List It) (tl : Tail) (h : AH) : RCall Try.prog n_slices_Values_Item [.sl nl l.length (trs l) tl] h (.fn 50 [.sptr [.sl nl l.length (trs l) tl]]) := by
  refine RCall.of hm cF_slices_Values_Item (by simp [g_slices_Values_Item]) fun hw h' hl => ?_
  simp only [F_slices_Values_Item, g_slices_Values_Item, go_sem, reduceIte, Nat.reduceEqDiff, Nat.reduceAdd, Nat.reduceMul, Nat.reduceSub, reduceCtorEq, Nat.reduceLeDiff, Nat.reduceLT, Int.reduceLT, Int.reduceLE, Int.reduceToNat, Int.reduceAdd, Int.reduceSub, Int.reduceNeg, Int.reduceMul, Int.reduceEq, ← Bool.decide_and, ← Bool.decide_or, ↓tq_n, ↓tq_e, ↓tq_r, ↓bq_n, ↓bq_e, ↓bq_r, ↓rq_n, ↓rq_r, ↓rq_e]
  exact ret_ok rfl
def tallV (l : List It) : AV := if itQ l = 0 then .tup [.sl (decide (tallL l = [])) (tallL l).length (trs (tallL l)) .unk, I 0] else .tup [.sl true 0 [] .full, I (itQ l)]
theorem inR_items {l : List It} (h : itQ l = 0) : ∀ x ∈ l, InR .i64 x.1 ∧ InR .i64 x.2.1 ∧ InR .i64 x.2.2 := by
  intro x hx
  obtain ⟨_, h2⟩ := itQ_ok h
  obtain ⟨j, hj, rfl⟩ := List.getElem_of_mem hx
  have := h2 j hj
  unfold iOK at this
  have e : l.getD j dI = l[j] := by simp [List.getD, hj]
  rw [e] at this
  refine ⟨?_, ?_, ?_⟩ <;> rw [inR64] <;> omega
theorem r_plate_Tall (nl : Bool) (l : List It) (tl : Tail) (h : AH) : RCall Try.prog n_plate_Tall [.sl nl l.length (trs l) tl] h (tallV l) := by
  refine RCall.of hm cF_plate_Tall (by simp [g_plate_Tall]) fun hw h' hl => ?_
  simp only [F_plate_Tall, g_plate_Tall, go_sem, reduceIte, Nat.reduceEqDiff, Nat.reduceAdd, Nat.reduceMul, Nat.reduceSub, reduceCtorEq, Nat.reduceLeDiff, Nat.reduceLT, Int.reduceLT, Int.reduceLE, Int.reduceToNat, Int.reduceAdd, Int.reduceSub, Int.reduceNeg, Int.reduceMul, Int.reduceEq, ← Bool.decide_and, ← Bool.decide_or, ↓tq_n, ↓tq_e, ↓tq_r, ↓bq_n, ↓bq_e, ↓bq_r, ↓rq_n, ↓rq_r, ↓rq_e]
  refine CallG.mk (r_plate_items nl l tl _) ?_
  by_cases h0 : itQ l = 0
  case neg =>
    simp only [h0, F_plate_Tall, g_plate_Tall, go_sem, reduceIte, Nat.reduceEqDiff, Nat.reduceAdd, Nat.reduceMul, Nat.reduceSub, reduceCtorEq, Nat.reduceLeDiff, Nat.reduceLT, Int.reduceLT, Int.reduceLE, Int.reduceToNat, Int.reduceAdd, Int.reduceSub, Int.reduceNeg, Int.reduceMul, Int.reduceEq, ← Bool.decide_and, ← Bool.decide_or, ↓tq_n, ↓tq_e, ↓tq_r, ↓bq_n, ↓bq_e, ↓bq_r, ↓rq_n, ↓rq_r, ↓rq_e]
    exact ret_ok (by simp [tallV, h0])
  simp only [h0, F_plate_Tall, g_plate_Tall, go_sem, reduceIte, Nat.reduceEqDiff, Nat.reduceAdd, Nat.reduceMul, Nat.reduceSub, reduceCtorEq, Nat.reduceLeDiff, Nat.reduceLT, Int.reduceLT, Int.reduceLE, Int.reduceToNat, Int.reduceAdd, Int.reduceSub, Int.reduceNeg, Int.reduceMul, Int.reduceEq, ← Bool.decide_and, ← Bool.decide_or, ↓tq_n, ↓tq_e, ↓tq_r, ↓bq_n, ↓bq_e, ↓bq_r, ↓rq_n, ↓rq_r, ↓rq_e]
  refine CallG.mk (r_slices_Values nl l tl _) ?_
  simp only [F_plate_Tall, g_plate_Tall, go_sem, reduceIte, Nat.reduceEqDiff, Nat.reduceAdd, Nat.reduceMul, Nat.reduceSub, reduceCtorEq, Nat.reduceLeDiff, Nat.reduceLT, Int.reduceLT, Int.reduceLE, Int.reduceToNat, Int.reduceAdd, Int.reduceSub, Int.reduceNeg, Int.reduceMul, Int.reduceEq, ← Bool.decide_and, ← Bool.decide_or, ↓tq_n, ↓tq_e, ↓tq_r, ↓bq_n, ↓bq_e, ↓bq_r, ↓rq_n, ↓rq_r, ↓rq_e]
  refine CallG.mk (r_slices_SortedFunc nl l tl (inR_items h0) (by have := (itQ_ok h0).1; omega) _) ?_
  simp only [F_plate_Tall, g_plate_Tall, go_sem, reduceIte, Nat.reduceEqDiff, Nat.reduceAdd, Nat.reduceMul, Nat.reduceSub, reduceCtorEq, Nat.reduceLeDiff, Nat.reduceLT, Int.reduceLT, Int.reduceLE, Int.reduceToNat, Int.reduceAdd, Int.reduceSub, Int.reduceNeg, Int.reduceMul, Int.reduceEq, ← Bool.decide_and, ← Bool.decide_or, ↓tq_n, ↓tq_e, ↓tq_r, ↓bq_n, ↓bq_e, ↓bq_r, ↓rq_n, ↓rq_r, ↓rq_e]
  exact ret_ok (by simp [tallV, h0])
theorem bfI_iff (a b : It) : bfI a b ↔ ltT a b = true := by rw [ltT_iff]; rfl
theorem tall_uniq {l : List It} (ys : List It) (hp : ys.Perm l) (hs : ∀ p q, p < q → q < ys.length → ¬ bfI (ys.getD q dI) (ys.getD p dI)) : ys = tallL l := by
  have hl := hp.length_eq
  have := sorted_unique_holds ltT_swo ltT_anti l.toArray ys.toArray ⟨by simp [hl], fun i hi => by
    have : ¬ i < ys.length := by simp at hi; omega
    have h2 : ¬ i < l.length := by omega
    simp [this, h2], by
      have e1 : ys.toArray.extract 0 l.toArray.size = ys.toArray := by
        have : l.toArray.size = ys.toArray.size := by simp [hl]
        rw [this]; exact Array.extract_size
      rw [e1, Array.extract_size]; exact hp⟩ (fun i j _ hij hj => by
        have h1 : j < ys.length := by simp at hj; omega
        have h2 : i < ys.length := by omega
        have := hs i j hij h1
        rw [bfI_iff] at this
        have e1 : ys.toArray[j]! = ys.getD j dI := by simp [List.getD, h1]
        have e2 : ys.toArray[i]! = ys.getD i dI := by simp [List.getD, h2]
        rw [e1, e2]
        exact Bool.eq_false_iff.2 this)
  simpa [tallL] using this
/-- The document's answer; its slice is never nil. -/
def tallR (l : List It) : AV := if itQ l = 0 then .tup [.sl false (tallL l).length (trs (tallL l)) .unk, I 0] else .tup [.sl true 0 [] .full, I (itQ l)]
theorem r_ref_TallR (nl : Bool) (l : List It) (tl : Tail) (h : AH) : RCall Try.prog n_ref_Tall [.sl nl l.length (trs l) tl] h (tallR l) := by
  by_cases h0 : itQ l = 0
  · by_cases h00 : 0 < l.length
    · have := r_ref_Tall nl l tl h0 h00 (tallL l) tall_uniq h
      unfold tallR
      rw [if_pos h0]
      exact this
    · have hl0 : l = [] := List.eq_nil_of_length_eq_zero (by omega)
      subst hl0
      refine RCall.of hm cF_ref_Tall (by simp [g_ref_Tall]) fun hw h' hl => ?_
      simp only [F_ref_Tall, g_ref_Tall, go_sem, reduceIte, Nat.reduceEqDiff, Nat.reduceAdd, Nat.reduceMul, Nat.reduceSub, reduceCtorEq, Nat.reduceLeDiff, Nat.reduceLT, Int.reduceLT, Int.reduceLE, Int.reduceToNat, Int.reduceAdd, Int.reduceSub, Int.reduceNeg, Int.reduceMul, Int.reduceEq, ← Bool.decide_and, ← Bool.decide_or, ↓tq_n, ↓tq_e, ↓tq_r, ↓bq_n, ↓bq_e, ↓bq_r, ↓rq_n, ↓rq_r, ↓rq_e]
      refine CallG.mk (r_ref_items nl [] tl _) ?_
      simp only [h0, F_ref_Tall, g_ref_Tall, go_sem, reduceIte, Nat.reduceEqDiff, Nat.reduceAdd, Nat.reduceMul, Nat.reduceSub, reduceCtorEq, Nat.reduceLeDiff, Nat.reduceLT, Int.reduceLT, Int.reduceLE, Int.reduceToNat, Int.reduceAdd, Int.reduceSub, Int.reduceNeg, Int.reduceMul, Int.reduceEq, ← Bool.decide_and, ← Bool.decide_or, ↓tq_n, ↓tq_e, ↓tq_r, ↓bq_n, ↓bq_e, ↓bq_r, ↓rq_n, ↓rq_r, ↓rq_e]
      refine ⟨rfl, TokG.mk fun t ht => ?_⟩
      simp only [F_ref_Tall, g_ref_Tall, go_sem, reduceIte, Nat.reduceEqDiff, Nat.reduceAdd, Nat.reduceMul, Nat.reduceSub, reduceCtorEq, Nat.reduceLeDiff, Nat.reduceLT, Int.reduceLT, Int.reduceLE, Int.reduceToNat, Int.reduceAdd, Int.reduceSub, Int.reduceNeg, Int.reduceMul, Int.reduceEq, ← Bool.decide_and, ← Bool.decide_or, ↓tq_n, ↓tq_e, ↓tq_r, ↓bq_n, ↓bq_e, ↓bq_r, ↓rq_n, ↓rq_r, ↓rq_e]
      refine awp_loop (fun _ : Nat => [(5, .sl false 0 (trs []) (.tok t)), (6, I 1)]) (fun _ => h'.setTok t 0 3) (fun _ => True) (fun i => i) 0 trivial (GStep.forget (by repeat' first | exact EnvLe.nil _ | refine EnvLe.cons (AV.le.of_eq rfl) ?_ | refine EnvLe.cons (AV.le.undef _) ?_ | refine EnvLe.cons AV.le.unk ?_) (by repeat' first | exact AH.le.refl _ | assumption | (refine AH.le_put ?_ (by first | assumption | exact (AH.blk_put_ne _ _ (by assumption)).trans (by assumption) | exact AH.none_put (by assumption) | exact AH.none_put (AH.none_put (by assumption)) | (simp only [AH.blk_setTok, AH.tok_put] at *; first | assumption | exact AH.none_put (by assumption)))) | (refine AH.le_setTok ?_ (by first | assumption | exact (AH.blk_put_ne _ _ (by assumption)).trans (by assumption) | exact AH.none_put (by assumption) | exact AH.none_put (AH.none_put (by assumption)) | (simp only [AH.blk_setTok, AH.tok_put] at *; first | assumption | exact AH.none_put (by assumption)))) | (refine AH.le_putM ?_ (by first | assumption | exact (AH.mp_putM_ne _ _ (by assumption)).trans (by assumption) | (simp only [AH.mp_put, AH.mp_setTok] at *; assumption))))) fun i hi => .of_vg hm ?_
      have hn : ¬ (1 : Int) < ((0 : Nat) : Int) := by omega
      simp only [hn, F_ref_Tall, g_ref_Tall, go_sem, reduceIte, Nat.reduceEqDiff, Nat.reduceAdd, Nat.reduceMul, Nat.reduceSub, reduceCtorEq, Nat.reduceLeDiff, Nat.reduceLT, Int.reduceLT, Int.reduceLE, Int.reduceToNat, Int.reduceAdd, Int.reduceSub, Int.reduceNeg, Int.reduceMul, Int.reduceEq, ← Bool.decide_and, ← Bool.decide_or, ↓tq_n, ↓tq_e, ↓tq_r, ↓bq_n, ↓bq_e, ↓bq_r, ↓rq_n, ↓rq_r, ↓rq_e]
      refine ret_le (AH.le_setTok (.refl _) ht) ?_
      unfold tallR
      rw [if_pos h0]
      have ht : tallL [] = [] := by simp [tallL]
      rw [ht]
      exact AV.le.tupC (.cons AV.le.unk (.cons (AV.le.refl _) .nil))
  · refine RCall.of hm cF_ref_Tall (by simp [g_ref_Tall]) fun hw h' hl => ?_
    simp only [F_ref_Tall, g_ref_Tall, go_sem, reduceIte, Nat.reduceEqDiff, Nat.reduceAdd, Nat.reduceMul, Nat.reduceSub, reduceCtorEq, Nat.reduceLeDiff, Nat.reduceLT, Int.reduceLT, Int.reduceLE, Int.reduceToNat, Int.reduceAdd, Int.reduceSub, Int.reduceNeg, Int.reduceMul, Int.reduceEq, ← Bool.decide_and, ← Bool.decide_or, ↓tq_n, ↓tq_e, ↓tq_r, ↓bq_n, ↓bq_e, ↓bq_r, ↓rq_n, ↓rq_r, ↓rq_e]
    refine CallG.mk (r_ref_items nl l tl _) ?_
    simp only [h0, F_ref_Tall, g_ref_Tall, go_sem, reduceIte, Nat.reduceEqDiff, Nat.reduceAdd, Nat.reduceMul, Nat.reduceSub, reduceCtorEq, Nat.reduceLeDiff, Nat.reduceLT, Int.reduceLT, Int.reduceLE, Int.reduceToNat, Int.reduceAdd, Int.reduceSub, Int.reduceNeg, Int.reduceMul, Int.reduceEq, ← Bool.decide_and, ← Bool.decide_or, ↓tq_n, ↓tq_e, ↓tq_r, ↓bq_n, ↓bq_e, ↓bq_r, ↓rq_n, ↓rq_r, ↓rq_e]
    exact ret_ok (by simp [tallR, h0])
end Go.Proofs.Ytkoecjhjdckgeaa
