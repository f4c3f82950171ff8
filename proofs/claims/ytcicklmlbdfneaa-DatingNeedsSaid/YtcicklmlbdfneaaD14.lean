/- Calls of functions of this seat's program: the reference's latest dating. No condition. -/
import Derived.Test.YtcicklmlbdfneaaD13
namespace Go.Proofs.Ytcicklmlbdfneaa
open Go Go.Abs
set_option linter.unusedSimpArgs false
set_option linter.unusedVariables false
set_option maxRecDepth 20000

/-- Above every dating. -/
def HiS (c : Cr) (ts hs : List Int) : Prop := ts.length = c.ty.length ∧ hs.length = c.ho.length ∧ (∀ t h, DT c t h → (∀ i, i < c.ty.length → t.getD i 0 ≤ ts.getD i 0) ∧ ∀ i, i < c.ho.length → h.getD i 0 ≤ hs.getD i 0) ∧
  (∀ i, i < c.ty.length → ts.getD i 0 ≤ (c.ty.getD i (0, 0)).2) ∧ ∀ i, i < c.ho.length → hs.getD i 0 = (c.ho.getD i dH).cl.2
def t9 (c : Cr) : List Int := c.ty.map Prod.snd
def h9 (c : Cr) : List Int := c.ho.map fun x => x.cl.2
theorem t9_get (c : Cr) {i : Nat} (hi : i < c.ty.length) : (t9 c).getD i 0 = (c.ty.getD i (0, 0)).2 := by simp [t9, List.getD, hi]
theorem h9_get (c : Cr) {i : Nat} (hi : i < c.ho.length) : (h9 c).getD i 0 = (c.ho.getD i dH).cl.2 := by simp [h9, List.getD, hi]
theorem HiS.init (c : Cr) : HiS c (t9 c) (h9 c) :=
  ⟨by simp [t9], by simp [h9], fun t h hd => ⟨fun i hi => by rw [t9_get c hi]; exact (hd.2.2.2.1 i hi).2, fun i hi => by rw [h9_get c hi]; exact (hd.2.2.2.2.1 i hi).1.2⟩,
    fun i hi => by rw [t9_get c hi]; exact Int.le_refl _, fun i hi => h9_get c hi⟩
theorem HiS.gap {c : Cr} {ts hs : List Int} (hv : VC c) (k : HiS c ts hs) {i : Nat} (hi : i < c.ga.length) : HiS c (ts.set ((c.ga.getD i (0, 0, 0)).2.1 - 1).toNat (min (ts.getD ((c.ga.getD i (0, 0, 0)).2.1 - 1).toNat 0) (ts.getD ((c.ga.getD i (0, 0, 0)).1 - 1).toNat 0 + (c.ga.getD i (0, 0, 0)).2.2))) hs := by
  obtain ⟨k1, k2, k3, k4, k5⟩ := k
  have hg := hv.2.2.2 i hi
  unfold gOK at hg
  have hd6 : ∀ t h, DT c t h → _ := fun t h hd => hd.2.2.2.2.2 i hi
  generalize c.ga.getD i (0, 0, 0) = g at *
  have n1 : (g.1 - 1).toNat < c.ty.length := by omega
  have n2 : (g.2.1 - 1).toNat < c.ty.length := by omega
  refine ⟨by simpa using k1, k2, fun t h hd => ⟨fun a ha => ?_, (k3 t h hd).2⟩, fun a ha => ?_, k5⟩
  · rw [getD_set _ _ _ _ (by omega)]
    have e1 := (k3 t h hd).1
    split
    · rename_i he; subst he
      have e2 := e1 _ n1
      have e3 := e1 _ n2
      have e4 := hd6 t h hd
      omega
    · exact e1 a ha
  · rw [getD_set _ _ _ _ (by omega)]
    have e1 := k4 a ha
    split
    · rename_i he; subst he; omega
    · exact e1
theorem HiS.coin {c : Cr} {ts hs : List Int} (hv : VC c) (k : HiS c ts hs) {i j : Nat} (hi : i < c.ho.length) (hj : j < (c.ho.getD i dH).coins.length) :
    HiS c (ts.set (((c.ho.getD i dH).coins.getD j (0, 0)).1 - 1).toNat (min (ts.getD (((c.ho.getD i dH).coins.getD j (0, 0)).1 - 1).toNat 0) (hs.getD i 0))) hs := by
  obtain ⟨k1, k2, k3, k4, k5⟩ := k
  have hkey := vc_coin hv hi hj
  have hd5 : ∀ t h, DT c t h → _ := fun t h hd => (hd.2.2.2.2.1 i hi).2 j hj
  generalize ((c.ho.getD i dH).coins.getD j (0, 0)).1 = key at *
  have n1 : (key - 1).toNat < c.ty.length := by omega
  refine ⟨by simpa using k1, k2, fun t h hd => ⟨fun a ha => ?_, (k3 t h hd).2⟩, fun a ha => ?_, k5⟩
  · rw [getD_set _ _ _ _ (by omega)]
    have e1 := (k3 t h hd).1
    split
    · rename_i he; subst he
      have e2 := (k3 t h hd).2 i hi
      have e3 := e1 _ n1
      have e4 := hd5 t h hd
      omega
    · exact e1 a ha
  · rw [getD_set _ _ _ _ (by omega)]
    have e1 := k4 a ha
    split
    · rename_i he; subst he; omega
    · exact e1
theorem HiS.done {c : Cr} {ts hs : List Int} (k : HiS c ts hs) (hd : DT c ts hs) : Ok c ∧ ts = hiT c ∧ hs = hiH c := by
  obtain ⟨o, b1, b2⟩ := dt_between hd
  obtain ⟨e1, e2⟩ := k.2.2.1 _ _ (ends_dt hd.1 o).2
  have l1 := (ends_dt hd.1 o).2.2.1
  have l2 := (ends_dt hd.1 o).2.2.2.1
  refine ⟨o, getD_ext (by rw [l1, k.1]) fun i hi => ?_, getD_ext (by rw [l2, k.2.1]) fun i hi => ?_⟩
  · have h1 := e1 i (by rw [← k.1]; exact hi)
    have h2 := (b1 i (by rw [← k.1]; exact hi)).2
    omega
  · have h1 := e2 i (by rw [← k.2.1]; exact hi)
    have h2 := (b2 i (by rw [← k.2.1]; exact hi)).2
    omega
def mzL (c : Cr) (ts : List Int) : Int := sumZ (fun i => ts.getD i 0 - (c.ty.getD i (0, 0)).1) c.ty.length
theorem mzL_less {c : Cr} {ts ts0 : List Int} (l1 : ts.length = c.ty.length) (l3 : ts0.length = c.ty.length)
    (g1 : ∀ i, i < c.ty.length → ts.getD i 0 ≤ ts0.getD i 0) (u1 : ∀ i, i < c.ty.length → (c.ty.getD i (0, 0)).1 ≤ ts.getD i 0) (hne : ¬ ts = ts0) : (mzL c ts).toNat < (mzL c ts0).toNat := by
  have p1 : 0 ≤ sumZ (fun i => ts.getD i 0 - (c.ty.getD i (0, 0)).1) c.ty.length := sumZ_nn fun i hi => by have := u1 i hi; omega
  have hlt : mzL c ts < mzL c ts0 := by
    unfold mzL
    by_cases e1 : ∃ i, i < c.ty.length ∧ ts.getD i 0 < ts0.getD i 0
    · obtain ⟨i, hi, hlt⟩ := e1
      exact sumZ_lt (fun i hi => by have := g1 i hi; omega) ⟨i, hi, by omega⟩
    · refine absurd (getD_ext (by omega) fun i hi => ?_) hne
      have := g1 i (by omega)
      have : ¬ ts.getD i 0 < ts0.getD i 0 := fun hh => e1 ⟨i, by omega, hh⟩
      omega
  unfold mzL at hlt ⊢
  omega

set_option maxHeartbeats 4000000 in
theorem r_ref_Last (c : Cr) (h : AH) : RCall Try.prog n_ref_Last [.st c.cs] h (if VC c then (if Ok c then .tup [asl (hiT c), asl (hiH c), I 0] else .tup [.sl true 0 [] .full, .sl true 0 [] .full, I 10]) else .tup [.sl true 0 [] .full, .sl true 0 [] .full, I 1]) := by
  refine RCall.of hm cF_ref_Last (by simp [g_ref_Last]) fun hw h' hl => ?_
  obtain ⟨hxT, hxH, hxG⟩ := cr_lens (n := 1) (hw _ (.head _))
  simp only [Cr.cs, F_ref_Last, g_ref_Last, go_sem, reduceIte, Nat.reduceEqDiff, Nat.reduceAdd, Nat.reduceMul, Nat.reduceSub, reduceCtorEq, Nat.reduceLeDiff, Nat.reduceLT, Int.reduceLT, Int.reduceLE, Int.reduceToNat, Int.reduceAdd, Int.reduceSub, Int.reduceNeg, Int.reduceMul, Int.reduceEq, ← Bool.decide_and, ← Bool.decide_or, ↓tq_n, ↓tq_e, ↓tq_r, ↓bq_n, ↓bq_e, ↓bq_r, ↓rq_n, ↓rq_r, ↓rq_e]
  refine AllocG.mk fun b1 hb1 => ?_
  simp only [F_ref_Last, g_ref_Last, go_sem, reduceIte, Nat.reduceEqDiff, Nat.reduceAdd, Nat.reduceMul, Nat.reduceSub, reduceCtorEq, Nat.reduceLeDiff, Nat.reduceLT, Int.reduceLT, Int.reduceLE, Int.reduceToNat, Int.reduceAdd, Int.reduceSub, Int.reduceNeg, Int.reduceMul, Int.reduceEq, ← Bool.decide_and, ← Bool.decide_or, ↓tq_n, ↓tq_e, ↓tq_r, ↓bq_n, ↓bq_e, ↓bq_r, ↓rq_n, ↓rq_r, ↓rq_e]
  generalize hH : h'.put b1 [AV.sl c.nlT c.ty.length (prs c.ty) c.tlT, AV.sl c.nlH c.ho.length (hds c.ho) c.tlH, AV.sl c.nlG c.ga.length (trs c.ga) c.tlG] = H at *
  have Hb : H.blk b1 = some [AV.sl c.nlT c.ty.length (prs c.ty) c.tlT, AV.sl c.nlH c.ho.length (hds c.ho) c.tlH, AV.sl c.nlG c.ga.length (trs c.ga) c.tlG] := by rw [← hH, AH.blk_put]
  have Hle : h'.le H := by rw [← hH]; exact (by repeat' first | exact AH.le.refl _ | assumption | (refine AH.le_put ?_ (by first | assumption | exact (AH.blk_put_ne _ _ (by assumption)).trans (by assumption) | exact AH.none_put (by assumption) | exact AH.none_put (AH.none_put (by assumption)) | (simp only [AH.blk_setTok, AH.tok_put] at *; first | assumption | exact AH.none_put (by assumption)))) | (refine AH.le_setTok ?_ (by first | assumption | exact (AH.blk_put_ne _ _ (by assumption)).trans (by assumption) | exact AH.none_put (by assumption) | exact AH.none_put (AH.none_put (by assumption)) | (simp only [AH.blk_setTok, AH.tok_put] at *; first | assumption | exact AH.none_put (by assumption)))) | (refine AH.le_putM ?_ (by first | assumption | exact (AH.mp_putM_ne _ _ (by assumption)).trans (by assumption) | (simp only [AH.mp_put, AH.mp_setTok] at *; assumption))))
  clear hH
  refine CallG.mk (r_ref_Valid c _) ?_
  simp only [F_ref_Last, g_ref_Last, go_sem, reduceIte, Nat.reduceEqDiff, Nat.reduceAdd, Nat.reduceMul, Nat.reduceSub, reduceCtorEq, Nat.reduceLeDiff, Nat.reduceLT, Int.reduceLT, Int.reduceLE, Int.reduceToNat, Int.reduceAdd, Int.reduceSub, Int.reduceNeg, Int.reduceMul, Int.reduceEq, ← Bool.decide_and, ← Bool.decide_or, ↓tq_n, ↓tq_e, ↓tq_r, ↓bq_n, ↓bq_e, ↓bq_r, ↓rq_n, ↓rq_r, ↓rq_e]
  refine ⟨fun h1 => ?_, fun h1 => ?_⟩
  · refine ret_hb Hle ?_
    rw [if_neg h1]
  rw [if_pos h1]
  obtain ⟨b8, b6, b16⟩ := h1.1
  have lt0 : (t9 c).length = c.ty.length := by simp [t9]
  have lh0 : (h9 c).length = c.ho.length := by simp [h9]
  -- the types' beginnings
  refine awp_loop (α := Nat × AV × AH) (fun x => [(1, .ptr b1 0), (5, x.2.1), (6, .sl true 0 [] .full), (7, I x.1)]) (fun x => x.2.2) (fun x => x.1 ≤ c.ty.length ∧ Gr H x.2.1 ((t9 c).take x.1) x.2.2) (fun x => c.ty.length - x.1)
    (0, .sl true 0 [] .full, H) ⟨Nat.zero_le _, Gr.new H⟩ (GStep.forget (by repeat' first | exact EnvLe.nil _ | refine EnvLe.cons (AV.le.of_eq rfl) ?_ | refine EnvLe.cons (AV.le.undef _) ?_ | refine EnvLe.cons AV.le.unk ?_) (by repeat' first | exact AH.le.refl _ | assumption | (refine AH.le_put ?_ (by first | assumption | exact (AH.blk_put_ne _ _ (by assumption)).trans (by assumption) | exact AH.none_put (by assumption) | exact AH.none_put (AH.none_put (by assumption)) | (simp only [AH.blk_setTok, AH.tok_put] at *; first | assumption | exact AH.none_put (by assumption)))) | (refine AH.le_setTok ?_ (by first | assumption | exact (AH.blk_put_ne _ _ (by assumption)).trans (by assumption) | exact AH.none_put (by assumption) | exact AH.none_put (AH.none_put (by assumption)) | (simp only [AH.blk_setTok, AH.tok_put] at *; first | assumption | exact AH.none_put (by assumption)))) | (refine AH.le_putM ?_ (by first | assumption | exact (AH.mp_putM_ne _ _ (by assumption)).trans (by assumption) | (simp only [AH.mp_put, AH.mp_setTok] at *; assumption))))) fun x hx => .of_vg hm ?_
  obtain ⟨i, x, F⟩ := x
  obtain ⟨hi, k⟩ := hx
  simp only at hi k ⊢
  have Fb := k.old Hb
  by_cases hic : i < c.ty.length
  · have hc1 : (i : Int) < (c.ty.length : Int) := by omega
    simp only [hc1, Fb, prs_drop hic, F_ref_Last, g_ref_Last, go_sem, reduceIte, Nat.reduceEqDiff, Nat.reduceAdd, Nat.reduceMul, Nat.reduceSub, reduceCtorEq, Nat.reduceLeDiff, Nat.reduceLT, Int.reduceLT, Int.reduceLE, Int.reduceToNat, Int.reduceAdd, Int.reduceSub, Int.reduceNeg, Int.reduceMul, Int.reduceEq, ← Bool.decide_and, ← Bool.decide_or, ↓tq_n, ↓tq_e, ↓tq_r, ↓bq_n, ↓bq_e, ↓bq_r, ↓rq_n, ↓rq_r, ↓rq_e]
    refine Gr.step k (by rw [List.length_take]; omega) fun x' F' k' => ?_
    simp only [F_ref_Last, g_ref_Last, go_sem, reduceIte, Nat.reduceEqDiff, Nat.reduceAdd, Nat.reduceMul, Nat.reduceSub, reduceCtorEq, Nat.reduceLeDiff, Nat.reduceLT, Int.reduceLT, Int.reduceLE, Int.reduceToNat, Int.reduceAdd, Int.reduceSub, Int.reduceNeg, Int.reduceMul, Int.reduceEq, ← Bool.decide_and, ← Bool.decide_or, ↓tq_n, ↓tq_e, ↓tq_r, ↓bq_n, ↓bq_e, ↓bq_r, ↓rq_n, ↓rq_r, ↓rq_e]
    refine ⟨by rw [inR64]; omega, (i + 1, x', F'), ⟨by simp only; omega, ?_⟩, by simp only; omega, (GStep.forget (by repeat' first | exact EnvLe.nil _ | refine EnvLe.cons (AV.le.of_eq rfl) ?_ | refine EnvLe.cons (AV.le.undef _) ?_ | refine EnvLe.cons AV.le.unk ?_) (by repeat' first | exact AH.le.refl _ | assumption | (refine AH.le_put ?_ (by first | assumption | exact (AH.blk_put_ne _ _ (by assumption)).trans (by assumption) | exact AH.none_put (by assumption) | exact AH.none_put (AH.none_put (by assumption)) | (simp only [AH.blk_setTok, AH.tok_put] at *; first | assumption | exact AH.none_put (by assumption)))) | (refine AH.le_setTok ?_ (by first | assumption | exact (AH.blk_put_ne _ _ (by assumption)).trans (by assumption) | exact AH.none_put (by assumption) | exact AH.none_put (AH.none_put (by assumption)) | (simp only [AH.blk_setTok, AH.tok_put] at *; first | assumption | exact AH.none_put (by assumption)))) | (refine AH.le_putM ?_ (by first | assumption | exact (AH.mp_putM_ne _ _ (by assumption)).trans (by assumption) | (simp only [AH.mp_put, AH.mp_setTok] at *; assumption)))))⟩
    simp only
    rw [take_add (by omega), t9_get c hic]; exact k'
  have hic : i = c.ty.length := by omega
  subst hic
  rw [← lt0, List.take_length] at k
  simp only [Fb, F_ref_Last, g_ref_Last, go_sem, reduceIte, Nat.reduceEqDiff, Nat.reduceAdd, Nat.reduceMul, Nat.reduceSub, reduceCtorEq, Nat.reduceLeDiff, Nat.reduceLT, Int.reduceLT, Int.reduceLE, Int.reduceToNat, Int.reduceAdd, Int.reduceSub, Int.reduceNeg, Int.reduceMul, Int.reduceEq, ← Bool.decide_and, ← Bool.decide_or, ↓tq_n, ↓tq_e, ↓tq_r, ↓bq_n, ↓bq_e, ↓bq_r, ↓rq_n, ↓rq_r, ↓rq_e]
  -- the hoards' beginnings
  refine awp_loop (α := Nat × AV × AH) (fun z => [(1, .ptr b1 0), (5, x), (6, z.2.1), (8, I z.1)]) (fun z => z.2.2) (fun z => z.1 ≤ c.ho.length ∧ Gr F z.2.1 ((h9 c).take z.1) z.2.2) (fun z => c.ho.length - z.1)
    (0, .sl true 0 [] .full, F) ⟨Nat.zero_le _, Gr.new F⟩ (GStep.forget (by repeat' first | exact EnvLe.nil _ | refine EnvLe.cons (AV.le.of_eq rfl) ?_ | refine EnvLe.cons (AV.le.undef _) ?_ | refine EnvLe.cons AV.le.unk ?_) (by repeat' first | exact AH.le.refl _ | assumption | (refine AH.le_put ?_ (by first | assumption | exact (AH.blk_put_ne _ _ (by assumption)).trans (by assumption) | exact AH.none_put (by assumption) | exact AH.none_put (AH.none_put (by assumption)) | (simp only [AH.blk_setTok, AH.tok_put] at *; first | assumption | exact AH.none_put (by assumption)))) | (refine AH.le_setTok ?_ (by first | assumption | exact (AH.blk_put_ne _ _ (by assumption)).trans (by assumption) | exact AH.none_put (by assumption) | exact AH.none_put (AH.none_put (by assumption)) | (simp only [AH.blk_setTok, AH.tok_put] at *; first | assumption | exact AH.none_put (by assumption)))) | (refine AH.le_putM ?_ (by first | assumption | exact (AH.mp_putM_ne _ _ (by assumption)).trans (by assumption) | (simp only [AH.mp_put, AH.mp_setTok] at *; assumption))))) fun z hz => .of_vg hm ?_
  obtain ⟨i, y, F1⟩ := z
  obtain ⟨hi2, ky⟩ := hz
  simp only at hi2 ky ⊢
  have Fb1 := ky.old Fb
  by_cases hic : i < c.ho.length
  · have hc1 : (i : Int) < (c.ho.length : Int) := by omega
    simp only [hc1, Fb1, hds_drop hic, F_ref_Last, g_ref_Last, go_sem, reduceIte, Nat.reduceEqDiff, Nat.reduceAdd, Nat.reduceMul, Nat.reduceSub, reduceCtorEq, Nat.reduceLeDiff, Nat.reduceLT, Int.reduceLT, Int.reduceLE, Int.reduceToNat, Int.reduceAdd, Int.reduceSub, Int.reduceNeg, Int.reduceMul, Int.reduceEq, ← Bool.decide_and, ← Bool.decide_or, ↓tq_n, ↓tq_e, ↓tq_r, ↓bq_n, ↓bq_e, ↓bq_r, ↓rq_n, ↓rq_r, ↓rq_e]
    refine Gr.step ky (by rw [List.length_take]; omega) fun x' F' k' => ?_
    simp only [F_ref_Last, g_ref_Last, go_sem, reduceIte, Nat.reduceEqDiff, Nat.reduceAdd, Nat.reduceMul, Nat.reduceSub, reduceCtorEq, Nat.reduceLeDiff, Nat.reduceLT, Int.reduceLT, Int.reduceLE, Int.reduceToNat, Int.reduceAdd, Int.reduceSub, Int.reduceNeg, Int.reduceMul, Int.reduceEq, ← Bool.decide_and, ← Bool.decide_or, ↓tq_n, ↓tq_e, ↓tq_r, ↓bq_n, ↓bq_e, ↓bq_r, ↓rq_n, ↓rq_r, ↓rq_e]
    refine ⟨by rw [inR64]; omega, (i + 1, x', F'), ⟨by simp only; omega, ?_⟩, by simp only; omega, (GStep.forget (by repeat' first | exact EnvLe.nil _ | refine EnvLe.cons (AV.le.of_eq rfl) ?_ | refine EnvLe.cons (AV.le.undef _) ?_ | refine EnvLe.cons AV.le.unk ?_) (by repeat' first | exact AH.le.refl _ | assumption | (refine AH.le_put ?_ (by first | assumption | exact (AH.blk_put_ne _ _ (by assumption)).trans (by assumption) | exact AH.none_put (by assumption) | exact AH.none_put (AH.none_put (by assumption)) | (simp only [AH.blk_setTok, AH.tok_put] at *; first | assumption | exact AH.none_put (by assumption)))) | (refine AH.le_setTok ?_ (by first | assumption | exact (AH.blk_put_ne _ _ (by assumption)).trans (by assumption) | exact AH.none_put (by assumption) | exact AH.none_put (AH.none_put (by assumption)) | (simp only [AH.blk_setTok, AH.tok_put] at *; first | assumption | exact AH.none_put (by assumption)))) | (refine AH.le_putM ?_ (by first | assumption | exact (AH.mp_putM_ne _ _ (by assumption)).trans (by assumption) | (simp only [AH.mp_put, AH.mp_setTok] at *; assumption)))))⟩
    simp only
    rw [take_add (by omega), h9_get c hic]; exact k'
  have hic : i = c.ho.length := by omega
  subst hic
  rw [← lh0, List.take_length] at ky
  simp only [Fb1, F_ref_Last, g_ref_Last, go_sem, reduceIte, Nat.reduceEqDiff, Nat.reduceAdd, Nat.reduceMul, Nat.reduceSub, reduceCtorEq, Nat.reduceLeDiff, Nat.reduceLT, Int.reduceLT, Int.reduceLE, Int.reduceToNat, Int.reduceAdd, Int.reduceSub, Int.reduceNeg, Int.reduceMul, Int.reduceEq, ← Bool.decide_and, ← Bool.decide_or, ↓tq_n, ↓tq_e, ↓tq_r, ↓bq_n, ↓bq_e, ↓bq_r, ↓rq_n, ↓rq_r, ↓rq_e]
  obtain ⟨kx, kyH, hdj⟩ := k.later ky
  clear k ky Fb Fb1 hi hi2
  -- lowering
  refine awp_loop (α := List Int × AH) (fun z => [(1, .ptr b1 0), (5, x), (6, y)]) (fun z => z.2)
    (fun z => HiS c z.1 (h9 c) ∧ Gr H x z.1 z.2 ∧ Gr H y (h9 c) z.2 ∧ ∀ i, i < c.ty.length → (c.ty.getD i (0, 0)).1 ≤ z.1.getD i 0)
    (fun z => (mzL c z.1).toNat) (t9 c, F1) ⟨HiS.init c, kx, kyH, fun i hi => by rw [t9_get c hi]; exact (h1.2.1 i hi).1⟩ (GStep.forget (by repeat' first | exact EnvLe.nil _ | refine EnvLe.cons (AV.le.of_eq rfl) ?_ | refine EnvLe.cons (AV.le.undef _) ?_ | refine EnvLe.cons AV.le.unk ?_) (by repeat' first | exact AH.le.refl _ | assumption | (refine AH.le_put ?_ (by first | assumption | exact (AH.blk_put_ne _ _ (by assumption)).trans (by assumption) | exact AH.none_put (by assumption) | exact AH.none_put (AH.none_put (by assumption)) | (simp only [AH.blk_setTok, AH.tok_put] at *; first | assumption | exact AH.none_put (by assumption)))) | (refine AH.le_setTok ?_ (by first | assumption | exact (AH.blk_put_ne _ _ (by assumption)).trans (by assumption) | exact AH.none_put (by assumption) | exact AH.none_put (AH.none_put (by assumption)) | (simp only [AH.blk_setTok, AH.tok_put] at *; first | assumption | exact AH.none_put (by assumption)))) | (refine AH.le_putM ?_ (by first | assumption | exact (AH.mp_putM_ne _ _ (by assumption)).trans (by assumption) | (simp only [AH.mp_put, AH.mp_setTok] at *; assumption))))) fun z hz => .of_vg hm ?_
  clear kx kyH
  obtain ⟨ts0, F2⟩ := z
  obtain ⟨lo0, kx0, ky0, ut0⟩ := hz
  simp only at lo0 kx0 ky0 ut0 ⊢
  have Fb2 := kx0.old Hb
  simp only [Fb2, F_ref_Last, g_ref_Last, go_sem, reduceIte, Nat.reduceEqDiff, Nat.reduceAdd, Nat.reduceMul, Nat.reduceSub, reduceCtorEq, Nat.reduceLeDiff, Nat.reduceLT, Int.reduceLT, Int.reduceLE, Int.reduceToNat, Int.reduceAdd, Int.reduceSub, Int.reduceNeg, Int.reduceMul, Int.reduceEq, ← Bool.decide_and, ← Bool.decide_or, ↓tq_n, ↓tq_e, ↓tq_r, ↓bq_n, ↓bq_e, ↓bq_r, ↓rq_n, ↓rq_r, ↓rq_e]
  refine CallG.mk (r_ref_Is c _ kx0.rd ky0.rd) ?_
  simp only [F_ref_Last, g_ref_Last, go_sem, reduceIte, Nat.reduceEqDiff, Nat.reduceAdd, Nat.reduceMul, Nat.reduceSub, reduceCtorEq, Nat.reduceLeDiff, Nat.reduceLT, Int.reduceLT, Int.reduceLE, Int.reduceToNat, Int.reduceAdd, Int.reduceSub, Int.reduceNeg, Int.reduceMul, Int.reduceEq, ← Bool.decide_and, ← Bool.decide_or, ↓tq_n, ↓tq_e, ↓tq_r, ↓bq_n, ↓bq_e, ↓bq_r, ↓rq_n, ↓rq_r, ↓rq_e]
  refine ⟨fun hD => ?_, fun hD => ?_⟩
  case refine_2 =>
    obtain ⟨ok, rfl, e2⟩ := lo0.done hD
    rw [if_pos ok, ← e2]
    exact ⟨_, h', (gr_ret2 kx0 ky0 hdj).trans (RGh.forget (AV.le.refl _) Hle), rfl, rfl⟩
  -- the gaps
  refine awp_loop (α := Nat × List Int × AH) (fun z => [(1, .ptr b1 0), (5, x), (6, y), (9, I z.1)]) (fun z => z.2.2)
    (fun z => z.1 ≤ c.ga.length ∧ HiS c z.2.1 (h9 c) ∧ Gr H x z.2.1 z.2.2 ∧ Gr H y (h9 c) z.2.2 ∧ (∀ i, i < c.ty.length → z.2.1.getD i 0 ≤ ts0.getD i 0 ∧ -9999 - 20000 * (z.1 : Int) ≤ z.2.1.getD i 0) ∧ (z.2.1 = ts0 → ∀ b, b < z.1 → gapOK c ts0 b))
    (fun z => c.ga.length - z.1) (0, ts0, F2) ⟨Nat.zero_le _, lo0, kx0, ky0, fun i hi => ⟨Int.le_refl _, by have := ut0 i hi; have := (h1.2.1 i hi).2; simp only; omega⟩, fun _ b hb => absurd hb (Nat.not_lt_zero _)⟩ (GStep.forget (by repeat' first | exact EnvLe.nil _ | refine EnvLe.cons (AV.le.of_eq rfl) ?_ | refine EnvLe.cons (AV.le.undef _) ?_ | refine EnvLe.cons AV.le.unk ?_) (by repeat' first | exact AH.le.refl _ | assumption | (refine AH.le_put ?_ (by first | assumption | exact (AH.blk_put_ne _ _ (by assumption)).trans (by assumption) | exact AH.none_put (by assumption) | exact AH.none_put (AH.none_put (by assumption)) | (simp only [AH.blk_setTok, AH.tok_put] at *; first | assumption | exact AH.none_put (by assumption)))) | (refine AH.le_setTok ?_ (by first | assumption | exact (AH.blk_put_ne _ _ (by assumption)).trans (by assumption) | exact AH.none_put (by assumption) | exact AH.none_put (AH.none_put (by assumption)) | (simp only [AH.blk_setTok, AH.tok_put] at *; first | assumption | exact AH.none_put (by assumption)))) | (refine AH.le_putM ?_ (by first | assumption | exact (AH.mp_putM_ne _ _ (by assumption)).trans (by assumption) | (simp only [AH.mp_put, AH.mp_setTok] at *; assumption))))) fun z hz => .of_vg hm ?_
  obtain ⟨a, ts, F3⟩ := z
  obtain ⟨ha, lo, kx, ky, ge, hg⟩ := hz
  simp only at ha lo kx ky ge hg ⊢
  have Fb3 := kx.old Hb
  by_cases hac : a < c.ga.length
  · have hc1 : (a : Int) < (c.ga.length : Int) := by omega
    have lo' := lo.gap h1 hac
    have hgo : ∀ ts' : List Int, gapOK c ts' a ↔ ts'.getD ((c.ga.getD a (0, 0, 0)).2.1 - 1).toNat 0 - ts'.getD ((c.ga.getD a (0, 0, 0)).1 - 1).toNat 0 ≤ (c.ga.getD a (0, 0, 0)).2.2 := fun _ => Iff.rfl
    have hgv := h1.2.2.2 a hac
    unfold gOK at hgv
    simp only [hc1, Fb3, trs_drop hac, F_ref_Last, g_ref_Last, go_sem, reduceIte, Nat.reduceEqDiff, Nat.reduceAdd, Nat.reduceMul, Nat.reduceSub, reduceCtorEq, Nat.reduceLeDiff, Nat.reduceLT, Int.reduceLT, Int.reduceLE, Int.reduceToNat, Int.reduceAdd, Int.reduceSub, Int.reduceNeg, Int.reduceMul, Int.reduceEq, ← Bool.decide_and, ← Bool.decide_or, ↓tq_n, ↓tq_e, ↓tq_r, ↓bq_n, ↓bq_e, ↓bq_r, ↓rq_n, ↓rq_r, ↓rq_e]
    generalize c.ga.getD a (0, 0, 0) = g at *
    refine AllocG.mk fun b9 hb9 => ?_
    have kx2 := kx.put hb9 [I g.1, I g.2.1, I g.2.2]
    have ky2 := ky.put hb9 [I g.1, I g.2.1, I g.2.2]
    have i1 : InR .i64 (g.1 - 1) := by rw [inR64]; omega
    have i2 : InR .i64 (g.2.1 - 1) := by rw [inR64]; omega
    have lts := lo.1
    have g1 : (g.1 - 1).toNat < ts.length := by omega
    have g2 : (g.2.1 - 1).toNat < ts.length := by omega
    have g10 : (0 : Int) ≤ g.1 - 1 := by omega
    have g20 : (0 : Int) ≤ g.2.1 - 1 := by omega
    have g1c : g.1 - 1 < (ts.length : Int) := by omega
    have g2c : g.2.1 - 1 < (ts.length : Int) := by omega
    have a1 := ge _ (show (g.1 - 1).toNat < c.ty.length by omega)
    have a2 := ge _ (show (g.2.1 - 1).toNat < c.ty.length by omega)
    have a3 := lo.2.2.2.1 _ (show (g.1 - 1).toNat < c.ty.length by omega)
    have y2 := h1.2.1 _ (show (g.1 - 1).toNat < c.ty.length by omega)
    unfold Yv at y2
    have i3 : InR .i64 (ts.getD (g.1 - 1).toNat 0 + g.2.2) := by rw [inR64]; omega
    simp only [i1, i2, rd_ix kx2.rd, rd_ld kx2.rd g1, rd_ld kx2.rd g2, g10, g20, g1c, g2c, i3, gr_st kx2 g2, F_ref_Last, g_ref_Last, go_sem, reduceIte, Nat.reduceEqDiff, Nat.reduceAdd, Nat.reduceMul, Nat.reduceSub, reduceCtorEq, Nat.reduceLeDiff, Nat.reduceLT, Int.reduceLT, Int.reduceLE, Int.reduceToNat, Int.reduceAdd, Int.reduceSub, Int.reduceNeg, Int.reduceMul, Int.reduceEq, ← Bool.decide_and, ← Bool.decide_or, ↓tq_n, ↓tq_e, ↓tq_r, ↓bq_n, ↓bq_e, ↓bq_r, ↓rq_n, ↓rq_r, ↓rq_e]
    refine ⟨by rw [inR64]; omega, (a + 1, ts.set (g.2.1 - 1).toNat (min (ts.getD (g.2.1 - 1).toNat 0) (ts.getD (g.1 - 1).toNat 0 + g.2.2)), _), ⟨by simp only; omega, lo', kx2.wr g2 _, kx2.other ky2 hdj _, fun i hi => ?_, fun he b hb => ?_⟩, by simp only; omega, (GStep.forget (by repeat' first | exact EnvLe.nil _ | refine EnvLe.cons (AV.le.of_eq rfl) ?_ | refine EnvLe.cons (AV.le.undef _) ?_ | refine EnvLe.cons AV.le.unk ?_) (by repeat' first | exact AH.le.refl _ | assumption | (refine AH.le_put ?_ (by first | assumption | exact (AH.blk_put_ne _ _ (by assumption)).trans (by assumption) | exact AH.none_put (by assumption) | exact AH.none_put (AH.none_put (by assumption)) | (simp only [AH.blk_setTok, AH.tok_put] at *; first | assumption | exact AH.none_put (by assumption)))) | (refine AH.le_setTok ?_ (by first | assumption | exact (AH.blk_put_ne _ _ (by assumption)).trans (by assumption) | exact AH.none_put (by assumption) | exact AH.none_put (AH.none_put (by assumption)) | (simp only [AH.blk_setTok, AH.tok_put] at *; first | assumption | exact AH.none_put (by assumption)))) | (refine AH.le_putM ?_ (by first | assumption | exact (AH.mp_putM_ne _ _ (by assumption)).trans (by assumption) | (simp only [AH.mp_put, AH.mp_setTok] at *; assumption)))))⟩
    · simp only
      rw [getD_set _ _ _ _ g2]
      have := ge i hi
      split
      · rename_i he; subst he; omega
      · omega
    · simp only at he hb
      have hset : ∀ i, i < c.ty.length → (ts.set (g.2.1 - 1).toNat (min (ts.getD (g.2.1 - 1).toNat 0) (ts.getD (g.1 - 1).toNat 0 + g.2.2))).getD i 0 = if i = (g.2.1 - 1).toNat then (min (ts.getD (g.2.1 - 1).toNat 0) (ts.getD (g.1 - 1).toNat 0 + g.2.2)) else ts.getD i 0 := fun i hi => getD_set _ _ _ _ g2
      rw [he] at hset
      have hts : ts = ts0 := by
        refine getD_ext (by rw [lts, lo0.1]) fun i hi => ?_
        have e1 := hset i (by omega)
        have e2 := ge i (by omega)
        split at e1
        · rename_i hh; rw [← hh] at e1; omega
        · omega
      rcases lt_succ_cases hb with hb | rfl
      · exact hg hts b hb
      · rw [hgo]
        have e1 := hset (g.2.1 - 1).toNat (by omega)
        rw [if_pos rfl, hts] at e1
        omega
  have hac : a = c.ga.length := by omega
  subst hac
  simp only [Fb3, F_ref_Last, g_ref_Last, go_sem, reduceIte, Nat.reduceEqDiff, Nat.reduceAdd, Nat.reduceMul, Nat.reduceSub, reduceCtorEq, Nat.reduceLeDiff, Nat.reduceLT, Int.reduceLT, Int.reduceLE, Int.reduceToNat, Int.reduceAdd, Int.reduceSub, Int.reduceNeg, Int.reduceMul, Int.reduceEq, ← Bool.decide_and, ← Bool.decide_or, ↓tq_n, ↓tq_e, ↓tq_r, ↓bq_n, ↓bq_e, ↓bq_r, ↓rq_n, ↓rq_r, ↓rq_e]
  have nOk : ∀ {G : AH}, h'.le G → ¬ Ok c → (∃ r' h'', RGh (.tup [.sl true 0 [] .full, .sl true 0 [] .full, I 10]) G r' h'' ∧ r' = (if Ok c then .tup [asl (hiT c), asl (hiH c), I 0] else .tup [.sl true 0 [] .full, .sl true 0 [] .full, I 10]) ∧ h'' = h') := fun hle hn => ret_hb hle (by rw [if_neg hn])
  have gt : ∀ i, i < c.ty.length → ts.getD i 0 ≤ ts0.getD i 0 := fun i hi => (ge i hi).1
  have hg2 : ∀ ts2 : List Int, ts2.length = c.ty.length → (∀ i, i < c.ty.length → ts2.getD i 0 ≤ ts.getD i 0) → ts2 = ts0 → ∀ b, b < c.ga.length → gapOK c ts0 b := fun ts2 l2 hle he => by
    refine hg (getD_ext (by rw [lo.1, lo0.1]) fun i hi => ?_)
    have e1 := hle i (by rw [← lo.1]; exact hi)
    have e2 := gt i (by rw [← lo.1]; exact hi)
    rw [he] at e1
    omega
  clear ge Fb3 Fb2 ha hg
  -- the hoards
  refine awp_loop (α := Nat × List Int × AH) (fun z => [(1, .ptr b1 0), (5, x), (6, y), (11, I z.1)]) (fun z => z.2.2)
    (fun z => z.1 ≤ c.ho.length ∧ HiS c z.2.1 (h9 c) ∧ Gr H x z.2.1 z.2.2 ∧ Gr H y (h9 c) z.2.2 ∧ (∀ i, i < c.ty.length → z.2.1.getD i 0 ≤ ts.getD i 0) ∧ ∀ i, i < z.1 → ∀ k, k < (c.ho.getD i dH).coins.length → coinOK c z.2.1 (h9 c) i k)
    (fun z => c.ho.length - z.1) (0, ts, F3) ⟨Nat.zero_le _, lo, kx, ky, fun i hi => Int.le_refl _, fun b hb => absurd hb (Nat.not_lt_zero _)⟩ (GStep.forget (by repeat' first | exact EnvLe.nil _ | refine EnvLe.cons (AV.le.of_eq rfl) ?_ | refine EnvLe.cons (AV.le.undef _) ?_ | refine EnvLe.cons AV.le.unk ?_) (by repeat' first | exact AH.le.refl _ | assumption | (refine AH.le_put ?_ (by first | assumption | exact (AH.blk_put_ne _ _ (by assumption)).trans (by assumption) | exact AH.none_put (by assumption) | exact AH.none_put (AH.none_put (by assumption)) | (simp only [AH.blk_setTok, AH.tok_put] at *; first | assumption | exact AH.none_put (by assumption)))) | (refine AH.le_setTok ?_ (by first | assumption | exact (AH.blk_put_ne _ _ (by assumption)).trans (by assumption) | exact AH.none_put (by assumption) | exact AH.none_put (AH.none_put (by assumption)) | (simp only [AH.blk_setTok, AH.tok_put] at *; first | assumption | exact AH.none_put (by assumption)))) | (refine AH.le_putM ?_ (by first | assumption | exact (AH.mp_putM_ne _ _ (by assumption)).trans (by assumption) | (simp only [AH.mp_put, AH.mp_setTok] at *; assumption))))) fun z hz => .of_vg hm ?_
  clear lo kx ky
  obtain ⟨a, tq, F4⟩ := z
  obtain ⟨ha, lo, kx, ky, gh, hb⟩ := hz
  simp only at ha lo kx ky gh hb ⊢
  have Fb4 := kx.old Hb
  by_cases hac : a < c.ho.length
  · have hc1 : (a : Int) < (c.ho.length : Int) := by omega
    simp only [hc1, Fb4, F_ref_Last, g_ref_Last, go_sem, reduceIte, Nat.reduceEqDiff, Nat.reduceAdd, Nat.reduceMul, Nat.reduceSub, reduceCtorEq, Nat.reduceLeDiff, Nat.reduceLT, Int.reduceLT, Int.reduceLE, Int.reduceToNat, Int.reduceAdd, Int.reduceSub, Int.reduceNeg, Int.reduceMul, Int.reduceEq, ← Bool.decide_and, ← Bool.decide_or, ↓tq_n, ↓tq_e, ↓tq_r, ↓bq_n, ↓bq_e, ↓bq_r, ↓rq_n, ↓rq_r, ↓rq_e]
    refine awp_loop (α := Nat × List Int × AH) (fun z => [(1, .ptr b1 0), (5, x), (6, y), (11, I a), (12, I z.1)]) (fun z => z.2.2)
      (fun z => z.1 ≤ (c.ho.getD a dH).coins.length ∧ HiS c z.2.1 (h9 c) ∧ Gr H x z.2.1 z.2.2 ∧ Gr H y (h9 c) z.2.2 ∧ (∀ i, i < c.ty.length → z.2.1.getD i 0 ≤ ts.getD i 0) ∧ (∀ i, i < a → ∀ k, k < (c.ho.getD i dH).coins.length → coinOK c z.2.1 (h9 c) i k) ∧ ∀ k, k < z.1 → coinOK c z.2.1 (h9 c) a k)
      (fun z => (c.ho.getD a dH).coins.length - z.1) (0, tq, F4) ⟨Nat.zero_le _, lo, kx, ky, gh, hb, fun b hb => absurd hb (Nat.not_lt_zero _)⟩ (GStep.forget (by repeat' first | exact EnvLe.nil _ | refine EnvLe.cons (AV.le.of_eq rfl) ?_ | refine EnvLe.cons (AV.le.undef _) ?_ | refine EnvLe.cons AV.le.unk ?_) (by repeat' first | exact AH.le.refl _ | assumption | (refine AH.le_put ?_ (by first | assumption | exact (AH.blk_put_ne _ _ (by assumption)).trans (by assumption) | exact AH.none_put (by assumption) | exact AH.none_put (AH.none_put (by assumption)) | (simp only [AH.blk_setTok, AH.tok_put] at *; first | assumption | exact AH.none_put (by assumption)))) | (refine AH.le_setTok ?_ (by first | assumption | exact (AH.blk_put_ne _ _ (by assumption)).trans (by assumption) | exact AH.none_put (by assumption) | exact AH.none_put (AH.none_put (by assumption)) | (simp only [AH.blk_setTok, AH.tok_put] at *; first | assumption | exact AH.none_put (by assumption)))) | (refine AH.le_putM ?_ (by first | assumption | exact (AH.mp_putM_ne _ _ (by assumption)).trans (by assumption) | (simp only [AH.mp_put, AH.mp_setTok] at *; assumption))))) fun z hz => .of_vg hm ?_
    clear lo kx ky gh hb Fb4
    obtain ⟨e, tp, F5⟩ := z
    obtain ⟨he, lo, kx, ky, gh, hb, hk⟩ := hz
    simp only at he lo kx ky gh hb hk ⊢
    have Fb5 := kx.old Hb
    have lts := lo.1
    have ah : a < (h9 c).length := by omega
    have ahc : (a : Int) < ((h9 c).length : Int) := by omega
    have hcl := (h1.2.2.1 a hac).1.2.1
    by_cases hec : e < (c.ho.getD a dH).coins.length
    · have hc2 : (e : Int) < ((c.ho.getD a dH).coins.length : Int) := by omega
      have hkey := vc_coin h1 hac hec
      have lo' := lo.coin h1 hac hec
      have ik : InR .i64 (((c.ho.getD a dH).coins.getD e (0, 0)).1 - 1) := by rw [inR64]; omega
      have hkt : (((c.ho.getD a dH).coins.getD e (0, 0)).1 - 1).toNat < tp.length := by omega
      have k0 : (0 : Int) ≤ ((c.ho.getD a dH).coins.getD e (0, 0)).1 - 1 := by omega
      have k1 : ((c.ho.getD a dH).coins.getD e (0, 0)).1 - 1 < (tp.length : Int) := by omega
      have hdec : ∀ j, (tp.set (((c.ho.getD a dH).coins.getD e (0, 0)).1 - 1).toNat (min (tp.getD (((c.ho.getD a dH).coins.getD e (0, 0)).1 - 1).toNat 0) ((h9 c).getD a 0))).getD j 0 ≤ tp.getD j 0 := fun j => by
        rw [getD_set _ _ _ _ hkt]
        split
        · rename_i hh; subst hh; omega
        · exact Int.le_refl _
      simp only [hc1, Fb5, hds_drop hac, hc2, prs_drop hec, ik, ahc, rd_ix ky.rd, rd_ld ky.rd ah, rd_ix kx.rd, rd_ld kx.rd hkt, k0, k1, gr_st kx hkt, F_ref_Last, g_ref_Last, go_sem, reduceIte, Nat.reduceEqDiff, Nat.reduceAdd, Nat.reduceMul, Nat.reduceSub, reduceCtorEq, Nat.reduceLeDiff, Nat.reduceLT, Int.reduceLT, Int.reduceLE, Int.reduceToNat, Int.reduceAdd, Int.reduceSub, Int.reduceNeg, Int.reduceMul, Int.reduceEq, ← Bool.decide_and, ← Bool.decide_or, ↓tq_n, ↓tq_e, ↓tq_r, ↓bq_n, ↓bq_e, ↓bq_r, ↓rq_n, ↓rq_r, ↓rq_e]
      refine ⟨by rw [inR64]; omega, (e + 1, _, _), ⟨by simp only; omega, lo', kx.wr hkt _, kx.other ky hdj _, fun i hi => Int.le_trans (hdec i) (gh i hi), fun i hi k hk2 => ?_, fun k hk2 => ?_⟩, by simp only; omega, (GStep.forget (by repeat' first | exact EnvLe.nil _ | refine EnvLe.cons (AV.le.of_eq rfl) ?_ | refine EnvLe.cons (AV.le.undef _) ?_ | refine EnvLe.cons AV.le.unk ?_) (by repeat' first | exact AH.le.refl _ | assumption | (refine AH.le_put ?_ (by first | assumption | exact (AH.blk_put_ne _ _ (by assumption)).trans (by assumption) | exact AH.none_put (by assumption) | exact AH.none_put (AH.none_put (by assumption)) | (simp only [AH.blk_setTok, AH.tok_put] at *; first | assumption | exact AH.none_put (by assumption)))) | (refine AH.le_setTok ?_ (by first | assumption | exact (AH.blk_put_ne _ _ (by assumption)).trans (by assumption) | exact AH.none_put (by assumption) | exact AH.none_put (AH.none_put (by assumption)) | (simp only [AH.blk_setTok, AH.tok_put] at *; first | assumption | exact AH.none_put (by assumption)))) | (refine AH.le_putM ?_ (by first | assumption | exact (AH.mp_putM_ne _ _ (by assumption)).trans (by assumption) | (simp only [AH.mp_put, AH.mp_setTok] at *; assumption)))))⟩
      · have h3 := hb i hi k hk2
        simp only [coinOK] at h3 ⊢
        exact Int.le_trans (hdec _) h3
      · simp only [coinOK] at hk ⊢
        rcases lt_succ_cases hk2 with h3 | rfl
        · exact Int.le_trans (hdec _) (hk k h3)
        · rw [getD_set _ _ _ _ hkt, if_pos rfl]; omega
    have hec : e = (c.ho.getD a dH).coins.length := by omega
    subst hec
    simp only [hc1, Fb5, hds_drop hac, F_ref_Last, g_ref_Last, go_sem, reduceIte, Nat.reduceEqDiff, Nat.reduceAdd, Nat.reduceMul, Nat.reduceSub, reduceCtorEq, Nat.reduceLeDiff, Nat.reduceLT, Int.reduceLT, Int.reduceLE, Int.reduceToNat, Int.reduceAdd, Int.reduceSub, Int.reduceNeg, Int.reduceMul, Int.reduceEq, ← Bool.decide_and, ← Bool.decide_or, ↓tq_n, ↓tq_e, ↓tq_r, ↓bq_n, ↓bq_e, ↓bq_r, ↓rq_n, ↓rq_r, ↓rq_e]
    exact ⟨by rw [inR64]; omega, (a + 1, tp, F5), ⟨by simp only; omega, lo, kx, ky, gh, all_succ hb hk⟩, by simp only; omega, (GStep.forget (by repeat' first | exact EnvLe.nil _ | refine EnvLe.cons (AV.le.of_eq rfl) ?_ | refine EnvLe.cons (AV.le.undef _) ?_ | refine EnvLe.cons AV.le.unk ?_) (by repeat' first | exact AH.le.refl _ | assumption | (refine AH.le_put ?_ (by first | assumption | exact (AH.blk_put_ne _ _ (by assumption)).trans (by assumption) | exact AH.none_put (by assumption) | exact AH.none_put (AH.none_put (by assumption)) | (simp only [AH.blk_setTok, AH.tok_put] at *; first | assumption | exact AH.none_put (by assumption)))) | (refine AH.le_setTok ?_ (by first | assumption | exact (AH.blk_put_ne _ _ (by assumption)).trans (by assumption) | exact AH.none_put (by assumption) | exact AH.none_put (AH.none_put (by assumption)) | (simp only [AH.blk_setTok, AH.tok_put] at *; first | assumption | exact AH.none_put (by assumption)))) | (refine AH.le_putM ?_ (by first | assumption | exact (AH.mp_putM_ne _ _ (by assumption)).trans (by assumption) | (simp only [AH.mp_put, AH.mp_setTok] at *; assumption)))))⟩
  have hac : a = c.ho.length := by omega
  subst hac
  simp only [Fb4, F_ref_Last, g_ref_Last, go_sem, reduceIte, Nat.reduceEqDiff, Nat.reduceAdd, Nat.reduceMul, Nat.reduceSub, reduceCtorEq, Nat.reduceLeDiff, Nat.reduceLT, Int.reduceLT, Int.reduceLE, Int.reduceToNat, Int.reduceAdd, Int.reduceSub, Int.reduceNeg, Int.reduceMul, Int.reduceEq, ← Bool.decide_and, ← Bool.decide_or, ↓tq_n, ↓tq_e, ↓tq_r, ↓bq_n, ↓bq_e, ↓bq_r, ↓rq_n, ↓rq_r, ↓rq_e]
  -- the types
  have lts := lo.1
  refine awp_loop (fun i : Nat => [(1, .ptr b1 0), (5, x), (6, y), (14, I i)]) (fun _ => F4) (fun i => i ≤ c.ty.length ∧ ∀ j, j < i → (c.ty.getD j (0, 0)).1 ≤ tq.getD j 0) (fun i => c.ty.length - i) 0 ⟨Nat.zero_le _, fun b hb => absurd hb (Nat.not_lt_zero _)⟩ (GStep.forget (by repeat' first | exact EnvLe.nil _ | refine EnvLe.cons (AV.le.of_eq rfl) ?_ | refine EnvLe.cons (AV.le.undef _) ?_ | refine EnvLe.cons AV.le.unk ?_) (by repeat' first | exact AH.le.refl _ | assumption | (refine AH.le_put ?_ (by first | assumption | exact (AH.blk_put_ne _ _ (by assumption)).trans (by assumption) | exact AH.none_put (by assumption) | exact AH.none_put (AH.none_put (by assumption)) | (simp only [AH.blk_setTok, AH.tok_put] at *; first | assumption | exact AH.none_put (by assumption)))) | (refine AH.le_setTok ?_ (by first | assumption | exact (AH.blk_put_ne _ _ (by assumption)).trans (by assumption) | exact AH.none_put (by assumption) | exact AH.none_put (AH.none_put (by assumption)) | (simp only [AH.blk_setTok, AH.tok_put] at *; first | assumption | exact AH.none_put (by assumption)))) | (refine AH.le_putM ?_ (by first | assumption | exact (AH.mp_putM_ne _ _ (by assumption)).trans (by assumption) | (simp only [AH.mp_put, AH.mp_setTok] at *; assumption))))) fun i hi => .of_vg hm ?_
  obtain ⟨hi, hu⟩ := hi
  by_cases hic : i < c.ty.length
  · have hil : i < tq.length := by omega
    have hc1 : (i : Int) < (tq.length : Int) := by omega
    have hc2 : (i : Int) < (c.ty.length : Int) := by omega
    simp only [rd_len kx.rd, hc1, hc2, Fb4, rd_ix kx.rd, rd_ld kx.rd hil, prs_drop hic, F_ref_Last, g_ref_Last, go_sem, reduceIte, Nat.reduceEqDiff, Nat.reduceAdd, Nat.reduceMul, Nat.reduceSub, reduceCtorEq, Nat.reduceLeDiff, Nat.reduceLT, Int.reduceLT, Int.reduceLE, Int.reduceToNat, Int.reduceAdd, Int.reduceSub, Int.reduceNeg, Int.reduceMul, Int.reduceEq, ← Bool.decide_and, ← Bool.decide_or, ↓tq_n, ↓tq_e, ↓tq_r, ↓bq_n, ↓bq_e, ↓bq_r, ↓rq_n, ↓rq_r, ↓rq_e]
    refine ⟨fun h3 => nOk (AH.le.trans Hle kx.1) (fun ho => ?_), fun h3 => ⟨by rw [inR64]; omega, i + 1, ⟨by omega, all_succ hu (by omega)⟩, by omega, (GStep.forget (by repeat' first | exact EnvLe.nil _ | refine EnvLe.cons (AV.le.of_eq rfl) ?_ | refine EnvLe.cons (AV.le.undef _) ?_ | refine EnvLe.cons AV.le.unk ?_) (by repeat' first | exact AH.le.refl _ | assumption | (refine AH.le_put ?_ (by first | assumption | exact (AH.blk_put_ne _ _ (by assumption)).trans (by assumption) | exact AH.none_put (by assumption) | exact AH.none_put (AH.none_put (by assumption)) | (simp only [AH.blk_setTok, AH.tok_put] at *; first | assumption | exact AH.none_put (by assumption)))) | (refine AH.le_setTok ?_ (by first | assumption | exact (AH.blk_put_ne _ _ (by assumption)).trans (by assumption) | exact AH.none_put (by assumption) | exact AH.none_put (AH.none_put (by assumption)) | (simp only [AH.blk_setTok, AH.tok_put] at *; first | assumption | exact AH.none_put (by assumption)))) | (refine AH.le_putM ?_ (by first | assumption | exact (AH.mp_putM_ne _ _ (by assumption)).trans (by assumption) | (simp only [AH.mp_put, AH.mp_setTok] at *; assumption)))))⟩⟩
    have d1 := (ends_dt h1 ho).1
    have e1 := (lo.2.2.1 _ _ d1).1 i hic
    have e2 := (d1.2.2.2.1 i hic).1
    omega
  have hic : i = c.ty.length := by omega
  subst hic
  have hnc : ¬ (c.ty.length : Int) < (tq.length : Int) := by omega
  simp only [rd_len kx.rd, hnc, F_ref_Last, g_ref_Last, go_sem, reduceIte, Nat.reduceEqDiff, Nat.reduceAdd, Nat.reduceMul, Nat.reduceSub, reduceCtorEq, Nat.reduceLeDiff, Nat.reduceLT, Int.reduceLT, Int.reduceLE, Int.reduceToNat, Int.reduceAdd, Int.reduceSub, Int.reduceNeg, Int.reduceMul, Int.reduceEq, ← Bool.decide_and, ← Bool.decide_or, ↓tq_n, ↓tq_e, ↓tq_r, ↓bq_n, ↓bq_e, ↓bq_r, ↓rq_n, ↓rq_r, ↓rq_e]
  refine ⟨(tq, F4), ⟨lo, kx, ky, hu⟩, ?_, (GStep.forget (by repeat' first | exact EnvLe.nil _ | refine EnvLe.cons (AV.le.of_eq rfl) ?_ | refine EnvLe.cons (AV.le.undef _) ?_ | refine EnvLe.cons AV.le.unk ?_) (by repeat' first | exact AH.le.refl _ | assumption | (refine AH.le_put ?_ (by first | assumption | exact (AH.blk_put_ne _ _ (by assumption)).trans (by assumption) | exact AH.none_put (by assumption) | exact AH.none_put (AH.none_put (by assumption)) | (simp only [AH.blk_setTok, AH.tok_put] at *; first | assumption | exact AH.none_put (by assumption)))) | (refine AH.le_setTok ?_ (by first | assumption | exact (AH.blk_put_ne _ _ (by assumption)).trans (by assumption) | exact AH.none_put (by assumption) | exact AH.none_put (AH.none_put (by assumption)) | (simp only [AH.blk_setTok, AH.tok_put] at *; first | assumption | exact AH.none_put (by assumption)))) | (refine AH.le_putM ?_ (by first | assumption | exact (AH.mp_putM_ne _ _ (by assumption)).trans (by assumption) | (simp only [AH.mp_put, AH.mp_setTok] at *; assumption)))))⟩
  refine mzL_less lo.1 lo0.1 (fun i hi => Int.le_trans (gh i hi) (gt i hi)) hu ?_
  intro he
  refine hD ⟨h1, lo0.1, lo0.2.1, fun i hi => ⟨ut0 i hi, lo0.2.2.2.1 i hi⟩, fun i hi => ⟨⟨?_, ?_⟩, ?_⟩, hg2 tq lo.1 gh he⟩
  · rw [h9_get c hi]; exact (h1.2.2.1 i hi).1.2.2.2.1
  · rw [h9_get c hi]; exact Int.le_refl _
  · rw [← he]; exact hb i hi
end Go.Proofs.Ytcicklmlbdfneaa
