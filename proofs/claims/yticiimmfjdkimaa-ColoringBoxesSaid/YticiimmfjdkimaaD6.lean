/- Coloring a graph: the lists of neighbours. No condition. -/
import Derived.Test.YticiimmfjdkimaaD5
namespace Go.Proofs.Yticiimmfjdkimaa
open Go Go.Abs
set_option linter.unusedSimpArgs false
set_option linter.unusedVariables false
set_option maxRecDepth 20000

theorem AV.le.slice {nl : Bool} {n : Nat} {cs cs' : List AV} {tl : Tail} (hl : cs'.length = cs.length) (h : ∀ (j : Nat) (x y : AV), cs'[j]? = some x → cs[j]? = some y → AV.le x y) : AV.le (.sl nl n cs' .unk) (.sl nl n cs tl) := by
  intro s v hv
  cases hv with
  | sl _ _ _ _ a cap vs hlen hrel hfx hnil hnone hspot hcap hmax htl =>
    refine .sl nl n cs' .unk a cap vs (by omega) (fun j x v hx hv => ?_) hfx hnil hnone hspot hcap hmax trivial
    have hj : j < cs.length := by rw [← hl]; exact (List.getElem?_eq_some_iff.1 hx).1
    exact h j x _ hx (List.getElem?_eq_getElem hj) s v (hrel j _ v (List.getElem?_eq_getElem hj) hv)
theorem drop_of_get {l : List AV} {i : Nat} {x : AV} (h : l[i]? = some x) : l.drop i = x :: l.drop (i + 1) := by
  obtain ⟨h1, h2⟩ := List.getElem?_eq_some_iff.1 h
  rw [List.drop_eq_getElem_cons h1, h2]

/-- The neighbours of v by the first i pairs. -/
def adjTo (e : List (Int × Int)) (v : Int) : Nat → List Int
  | 0 => []
  | i + 1 => adjTo e v i ++ (if (e.getD i (0, 0)).1 = v then [(e.getD i (0, 0)).2] else if (e.getD i (0, 0)).2 = v then [(e.getD i (0, 0)).1] else [])
theorem adjTo_len (e : List (Int × Int)) (v : Int) (i : Nat) : (adjTo e v i).length ≤ i := by
  induction i with
  | zero => simp [adjTo]
  | succ i ih => simp only [adjTo, List.length_append]; split <;> (try split) <;> simp <;> omega
/-- The neighbours of v. -/
def adj (e : List (Int × Int)) (v : Int) : List Int := adjTo e v e.length
/-- A list of neighbours that grows. -/
def gc (t : Nat) (l : List Int) : AV := .sl (decide (l = [])) l.length (i64s l) (if l = [] then .full else .tok t)
theorem gc_cells (t : Nat) (l : List Int) : (gc t l).cells = [gc t l] := rfl
theorem gc_one (t : Nat) (l : List Int) : (gc t l).one = true := rfl
/-- A list of neighbours. -/
def asl (l : List Int) : AV := .sl (decide (l = [])) l.length (i64s l) .unk
theorem asl_le (t : Nat) (l : List Int) : AV.le (asl l) (gc t l) := AV.le.unk
def grp (n : Int) (e : List (Int × Int)) : AV := .sl false n.toNat ((List.range n.toNat).map fun (v : Nat) => asl (adj e v)) .unk

theorem app_gc {H : AH} {t : Nat} {l : List Int} {y : Int} {KS : AV → AH → Prop} (ht : l ≠ [] → H.tok t = some (l.length, 1)) (hl : l.length ≤ 1000)
    (hk : ∀ t', (l ≠ [] → t' = t) → (l = [] → H.tok t' = none) → KS (gc t' (l ++ [y])) (H.setTok t' (l ++ [y]).length 1)) : ApS H 1 8 (gc t l) (.sl false 1 [I y] .full) (c := ⟨KS⟩) := by
  have hne : ¬ (l ++ [y] = []) := by simp
  by_cases hl0 : l = []
  · subst hl0
    have hg : gc t [] = .sl true 0 [] .full := rfl
    rw [hg]
    refine ⟨rfl, rfl, by omega, by omega, fun t' ht' => ?_⟩
    have := hk t' (fun hh => absurd rfl hh) (fun _ => ht')
    simpa [gc, i64s] using this
  · have hg : gc t l = .sl false l.length (i64s l) (.tok t) := by simp [gc, hl0]
    rw [hg]
    refine ⟨by rw [i64s_len]; omega, ht hl0, rfl, by omega, by omega, ?_⟩
    have := hk t (fun _ => rfl) (fun hh => absurd hh hl0)
    simpa [gc, i64s_append, i64s_one] using this

/-- The lists of neighbours in block b. -/
structure GInv (h0 : AH) (b N : Nat) (L : Nat → List Int) (cells : List AV) (tk : Nat → Nat) (h : AH) : Prop where
  blk : h.blk b = some cells
  len : cells.length = N
  cell : ∀ v, v < N → cells[v]? = some (gc (tk v) (L v))
  tok : ∀ v, v < N → L v ≠ [] → h.tok (tk v) = some ((L v).length, 1) ∧ h0.tok (tk v) = none
  inj : ∀ u v, u < N → v < N → L u ≠ [] → L v ≠ [] → tk u = tk v → u = v
  fresh : h0.blk b = none
  le : h0.le (h.del b)

/-- One list is longer. -/
theorem GInv.grow {h0 h : AH} {b N : Nat} {L : Nat → List Int} {cells : List AV} {tk : Nat → Nat} (k : GInv h0 b N L cells tk h) {a : Nat} (ha : a < N) {y : Int} {t : Nat} (h1 : L a ≠ [] → t = tk a) (h2 : L a = [] → h.tok t = none) :
    GInv h0 b N (fun v => if v = a then L a ++ [y] else L v) (cells.set a (gc t (L a ++ [y]))) (fun v => if v = a then t else tk v) ((h.setTok t (L a ++ [y]).length 1).put b (cells.set a (gc t (L a ++ [y])))) := by
  have hnone : h0.tok t = none := by
    by_cases hl : L a = []
    · exact AH.tnone_of_le (h' := h0) (h := h.del b) k.le (by simpa [AH.del] using h2 hl)
    · rw [h1 hl]; exact (k.tok a ha hl).2
  have hne : ∀ v, v < N → v ≠ a → L v ≠ [] → tk v ≠ t := by
    intro v hv hva hl hh
    by_cases hla : L a = []
    · have := (k.tok v hv hl).1
      rw [hh, h2 hla] at this; cases this
    · exact hva (k.inj v a hv ha hl hla (by rw [hh, h1 hla]))
  refine ⟨AH.blk_put _ _ _, by rw [List.length_set]; exact k.len, fun v hv => ?_, fun v hv hl => ?_, fun u v hu hv hlu hlv huv => ?_, k.fresh, ?_⟩
  · by_cases hva : v = a
    · subst hva; simp [k.len, hv]
    · rw [List.getElem?_set_ne (fun hh => hva hh.symm)]; simp only [hva, if_false]; exact k.cell v hv
  · by_cases hva : v = a
    · subst hva; simp only [if_true]; exact ⟨if_pos rfl, hnone⟩
    · simp only [hva, if_false] at hl ⊢
      refine ⟨?_, (k.tok v hv hl).2⟩
      exact (if_neg (hne v hv hva hl)).trans (k.tok v hv hl).1
  · by_cases hua : u = a
    · by_cases hva : v = a
      · rw [hua, hva]
      · simp only [hua, hva, if_true, if_false] at huv hlv
        exact absurd huv.symm (hne v hv hva hlv)
    · by_cases hva : v = a
      · simp only [hua, hva, if_true, if_false] at huv hlu
        exact absurd huv (hne u hu hua hlu)
      · simp only [hua, hva, if_false] at huv hlu hlv
        exact k.inj u v hu hv hlu hlv huv
  · refine ⟨fun x c hx => ?_, fun x c hx => ?_, ?_⟩
    · have := k.le.blk x c hx
      simp only [AH.del, AH.put, AH.setTok] at this ⊢
      split at this
      · cases this
      · rename_i hxb; simp only [hxb, if_false]; exact this
    · have := k.le.tok x c hx
      simp only [AH.del, AH.put, AH.setTok] at this ⊢
      rw [if_neg (fun hh => by subst hh; rw [hnone] at hx; cases hx)]; exact this
    · exact fun b es hx => k.le.mp b es hx
/-- Another block does not matter. -/
theorem GInv.other {h0 h : AH} {b N : Nat} {L : Nat → List Int} {cells : List AV} {tk : Nat → Nat} (k : GInv h0 b N L cells tk h) {c : Nat} (hc : c ≠ b) (hn : h0.blk c = none) (p : List AV) : GInv h0 b N L cells tk (h.put c p) where
  blk := by rw [AH.blk_put_ne _ _ (fun hh => hc hh.symm)]; exact k.blk
  len := k.len
  cell := k.cell
  tok := k.tok
  inj := k.inj
  fresh := k.fresh
  le := ⟨fun x y hx => by
    have := k.le.blk x y hx
    simp only [AH.del, AH.put] at this ⊢
    split at this
    · cases this
    · rename_i hxb
      simp only [hxb, if_false]
      rw [if_neg (fun hh => by subst hh; rw [hn] at hx; cases hx)]; exact this, k.le.tok, k.le.mp⟩
theorem GInv.congr {h0 h : AH} {b N : Nat} {L L' : Nat → List Int} {cells : List AV} {tk : Nat → Nat} (k : GInv h0 b N L cells tk h) (hl : ∀ v, v < N → L v = L' v) : GInv h0 b N L' cells tk h where
  blk := k.blk
  len := k.len
  cell := fun v hv => by rw [← hl v hv]; exact k.cell v hv
  tok := fun v hv => by rw [← hl v hv]; exact k.tok v hv
  inj := fun u v hu hv => by rw [← hl v hv, ← hl u hu]; exact k.inj u v hu hv
  fresh := k.fresh
  le := k.le
theorem le_put_swap {X : AH} {b c : Nat} {x y : List AV} (hc : X.blk c = none) (hbc : b ≠ c) : (X.put b x).le ((X.put c y).put b x) := by
  refine ⟨fun z w hz => ?_, fun _ _ hz => hz, fun _ _ hz => hz⟩
  simp only [AH.put] at hz ⊢
  split
  · rename_i hzb; subst hzb; simpa using hz
  · rename_i hzb
    rw [if_neg hzb] at hz
    rw [if_neg (fun hh => by subst hh; rw [hc] at hz; cases hz)]
    exact hz
theorem flat_rep (n : Nat) (x : AV) : (List.replicate n [x]).flatten = List.replicate n x := by
  induction n with
  | zero => rfl
  | succ n ih => rw [List.replicate_succ, List.flatten_cons, ih, List.replicate_succ]; rfl

theorem r_coloring_made (nl : Bool) (n : Int) (e : List (Int × Int)) (tl : Tail) (hv : Vd n e) (h : AH) : RCall Try.prog n_coloring_made [I n, .sl nl e.length (prs e) tl] h (grp n e) := by
  refine RCall.of hm cF_coloring_made (by simp [g_coloring_made]) fun hw h' hl => ?_
  have hx := wf_len (hw _ (.tail _ (.head _)))
  have hv0 := hv.1
  have hv12 := hv.2.1
  have hN : n.toNat ≤ 12 := by omega
  have hlen : e.length ≤ 144 := by
    have := vd_len hv
    have : n * n ≤ 12 * 12 := Int.le_trans (Int.mul_le_mul_of_nonneg_left hv12 hv0) (Int.mul_le_mul_of_nonneg_right hv12 (by omega))
    omega
  simp only [F_coloring_made, g_coloring_made, go_sem, reduceIte, Nat.reduceEqDiff, Nat.reduceAdd, Nat.reduceMul, Nat.reduceSub, reduceCtorEq, Nat.reduceLeDiff, Nat.reduceLT, Int.reduceLT, Int.reduceLE, Int.reduceToNat, Int.reduceAdd, Int.reduceSub, Int.reduceNeg, Int.reduceMul, Int.reduceEq, ← Bool.decide_and, ← Bool.decide_or, ↓tq_n, ↓tq_e, ↓tq_r, ↓bq_n, ↓bq_e, ↓bq_r, ↓rq_n, ↓rq_r, ↓rq_e]
  refine MakeG.mk hv0 (Int.le_refl _) (by omega) (by omega) fun b hb => ?_
  rw [flat_rep]
  simp only [F_coloring_made, g_coloring_made, go_sem, reduceIte, Nat.reduceEqDiff, Nat.reduceAdd, Nat.reduceMul, Nat.reduceSub, reduceCtorEq, Nat.reduceLeDiff, Nat.reduceLT, Int.reduceLT, Int.reduceLE, Int.reduceToNat, Int.reduceAdd, Int.reduceSub, Int.reduceNeg, Int.reduceMul, Int.reduceEq, ← Bool.decide_and, ← Bool.decide_or, ↓tq_n, ↓tq_e, ↓tq_r, ↓bq_n, ↓bq_e, ↓bq_r, ↓rq_n, ↓rq_r, ↓rq_e]
  refine awp_loop (α := Nat × List AV × (Nat → Nat) × AH) (fun x => [(0, I n), (1, .sl nl e.length (prs e) tl), (5, .msl b 0 n.toNat (some n.toNat)), (10, .sl nl e.length (prs e) tl), (11, I e.length), (12, I x.1)]) (fun x => x.2.2.2)
    (fun x => x.1 ≤ e.length ∧ GInv h' b n.toNat (fun v => adjTo e v x.1) x.2.1 x.2.2.1 x.2.2.2) (fun x => e.length - x.1) (0, List.replicate n.toNat (.sl true 0 [] .full), fun _ => 0, h'.put b (List.replicate n.toNat (.sl true 0 [] .full))) ⟨by simp, ?_⟩ (GStep.forget (by repeat' first | exact EnvLe.nil _ | refine EnvLe.cons (AV.le.of_eq rfl) ?_ | refine EnvLe.cons (AV.le.undef _) ?_ | refine EnvLe.cons AV.le.unk ?_) (by repeat' first | exact AH.le.refl _ | assumption | (refine AH.le_put ?_ (by first | assumption | exact (AH.blk_put_ne _ _ (by assumption)).trans (by assumption) | exact AH.none_put (by assumption) | exact AH.none_put (AH.none_put (by assumption)) | (simp only [AH.blk_setTok, AH.tok_put] at *; first | assumption | exact AH.none_put (by assumption)))) | (refine AH.le_setTok ?_ (by first | assumption | exact (AH.blk_put_ne _ _ (by assumption)).trans (by assumption) | exact AH.none_put (by assumption) | exact AH.none_put (AH.none_put (by assumption)) | (simp only [AH.blk_setTok, AH.tok_put] at *; first | assumption | exact AH.none_put (by assumption)))) | (refine AH.le_putM ?_ (by first | assumption | exact (AH.mp_putM_ne _ _ (by assumption)).trans (by assumption) | (simp only [AH.mp_put, AH.mp_setTok] at *; assumption))))) fun x hx => .of_vg hm ?_
  · refine ⟨AH.blk_put _ _ _, by simp, fun v hvn => ?_, fun v _ hh => absurd rfl hh, fun u v _ _ hh => absurd rfl hh, hb, ?_⟩
    · rw [List.getElem?_replicate, if_pos hvn]; rfl
    · refine ⟨fun z w hz => ?_, fun _ _ hz => hz, fun _ _ hz => hz⟩
      simp only [AH.del, AH.put]
      have : z ≠ b := fun hh => by subst hh; rw [hb] at hz; cases hz
      rw [if_neg this, if_neg this]; exact hz
  obtain ⟨i, cells, tk, H⟩ := x
  obtain ⟨h1, hg⟩ := hx
  simp only at h1 hg
  by_cases h5 : i < e.length
  · have hc5 : (i : Int) < (e.length : Int) := by omega
    have hp := hv.2.2 i h5
    unfold pOK at hp
    obtain ⟨a, ha⟩ : ∃ a : Nat, (e.getD i (0, 0)).1 = a := ⟨(e.getD i (0, 0)).1.toNat, by omega⟩
    obtain ⟨c, hc⟩ : ∃ c : Nat, (e.getD i (0, 0)).2 = c := ⟨(e.getD i (0, 0)).2.toNat, by omega⟩
    rw [ha, hc] at hp
    have haN : a < n.toNat := by omega
    have hcN : c < n.toNat := by omega
    have hac : a ≠ c := by omega
    have ha' : (a : Int) < (n.toNat : Int) := by omega
    have hc' : (c : Int) < (n.toNat : Int) := by omega
    simp only [hc5, prs_drop h5, ha, hc, F_coloring_made, g_coloring_made, go_sem, reduceIte, Nat.reduceEqDiff, Nat.reduceAdd, Nat.reduceMul, Nat.reduceSub, reduceCtorEq, Nat.reduceLeDiff, Nat.reduceLT, Int.reduceLT, Int.reduceLE, Int.reduceToNat, Int.reduceAdd, Int.reduceSub, Int.reduceNeg, Int.reduceMul, Int.reduceEq, ← Bool.decide_and, ← Bool.decide_or, ↓tq_n, ↓tq_e, ↓tq_r, ↓bq_n, ↓bq_e, ↓bq_r, ↓rq_n, ↓rq_r, ↓rq_e]
    refine AllocG.mk fun b7 hb7 => ?_
    have hbb : b ≠ b7 := fun hh => by subst hh; rw [hg.blk] at hb7; cases hb7
    have hda := drop_of_get (hg.cell a haN)
    simp only [AH.blk_put_ne _ _ hbb, hg.blk, ha', hc', hda, F_coloring_made, g_coloring_made, go_sem, reduceIte, Nat.reduceEqDiff, Nat.reduceAdd, Nat.reduceMul, Nat.reduceSub, reduceCtorEq, Nat.reduceLeDiff, Nat.reduceLT, Int.reduceLT, Int.reduceLE, Int.reduceToNat, Int.reduceAdd, Int.reduceSub, Int.reduceNeg, Int.reduceMul, Int.reduceEq, ← Bool.decide_and, ← Bool.decide_or, ↓tq_n, ↓tq_e, ↓tq_r, ↓bq_n, ↓bq_e, ↓bq_r, ↓rq_n, ↓rq_r, ↓rq_e]
    have hla := adjTo_len e a i
    have hlc := adjTo_len e c i
    refine app_gc (fun hh => (hg.tok a haN hh).1) (by omega) fun t1 ht1 ht1n => ?_
    have g1 := hg.grow haN (y := (c : Int)) ht1 ht1n
    have hca : ¬ c = a := fun hh => hac hh.symm
    have hcc := g1.cell c hcN
    simp only [hca, if_false] at hcc
    have hdc := drop_of_get hcc
    have hl1 : a + 1 ≤ cells.length := by rw [hg.len]; omega
    have hl2 : c + 1 ≤ cells.length := by rw [hg.len]; omega
    simp only [AH.blk_put_ne _ _ hbb, hg.blk, ha', hc', hda, gc_cells, gc_one, hl1, AH.blk_put_ne _ _ hbb.symm, hdc, F_coloring_made, g_coloring_made, go_sem, reduceIte, Nat.reduceEqDiff, Nat.reduceAdd, Nat.reduceMul, Nat.reduceSub, reduceCtorEq, Nat.reduceLeDiff, Nat.reduceLT, Int.reduceLT, Int.reduceLE, Int.reduceToNat, Int.reduceAdd, Int.reduceSub, Int.reduceNeg, Int.reduceMul, Int.reduceEq, ← Bool.decide_and, ← Bool.decide_or, ↓tq_n, ↓tq_e, ↓tq_r, ↓bq_n, ↓bq_e, ↓bq_r, ↓rq_n, ↓rq_r, ↓rq_e]
    refine app_gc (t := tk c) (l := adjTo e c i) (fun hh => ?_) (by omega) fun t2 ht2 ht2n => ?_
    · have := (g1.tok c hcN (by simp only [hca, if_false]; exact hh)).1
      simp only [hca, if_false] at this
      exact this
    have g2 := g1.grow hcN (y := (a : Int)) (by simp only [hca, if_false]; exact ht2) (by simp only [hca, if_false]; exact ht2n)
    simp only [AH.blk_put_ne _ _ hbb, hg.blk, ha', hc', hda, gc_cells, gc_one, hl1, hl2, AH.blk_put_ne _ _ hbb.symm, hdc, List.length_set, F_coloring_made, g_coloring_made, go_sem, reduceIte, Nat.reduceEqDiff, Nat.reduceAdd, Nat.reduceMul, Nat.reduceSub, reduceCtorEq, Nat.reduceLeDiff, Nat.reduceLT, Int.reduceLT, Int.reduceLE, Int.reduceToNat, Int.reduceAdd, Int.reduceSub, Int.reduceNeg, Int.reduceMul, Int.reduceEq, ← Bool.decide_and, ← Bool.decide_or, ↓tq_n, ↓tq_e, ↓tq_r, ↓bq_n, ↓bq_e, ↓bq_r, ↓rq_n, ↓rq_r, ↓rq_e]
    simp only [hca, if_false] at g2
    rw [AH.put_setTok, AH.put_put] at g2
    refine ⟨by rw [inR64]; omega, (i + 1, _, _, _), ⟨by simp only; omega, g2.congr fun v hv => ?_⟩, by simp only; omega, GStep.forget (by repeat' first | exact EnvLe.nil _ | refine EnvLe.cons (AV.le.of_eq rfl) ?_ | refine EnvLe.cons (AV.le.undef _) ?_ | refine EnvLe.cons AV.le.unk ?_) (le_put_swap hb7 hbb)⟩
    by_cases hvc : v = c
    · subst hvc
      have : ¬ (a : Int) = (v : Int) := by omega
      simp only [adjTo, ha, hc, this, if_true, if_false]
    · by_cases hva : v = a
      · subst hva
        simp only [adjTo, ha, hc, hvc, if_true, if_false]
      · have e1 : ¬ (a : Int) = (v : Int) := by omega
        have e2 : ¬ (c : Int) = (v : Int) := by omega
        simp only [adjTo, ha, hc, hvc, hva, e1, e2, if_false, List.append_nil]
  · have h5 : i = e.length := by omega
    subst h5
    simp only [F_coloring_made, g_coloring_made, go_sem, reduceIte, Nat.reduceEqDiff, Nat.reduceAdd, Nat.reduceMul, Nat.reduceSub, reduceCtorEq, Nat.reduceLeDiff, Nat.reduceLT, Int.reduceLT, Int.reduceLE, Int.reduceToNat, Int.reduceAdd, Int.reduceSub, Int.reduceNeg, Int.reduceMul, Int.reduceEq, ← Bool.decide_and, ← Bool.decide_or, ↓tq_n, ↓tq_e, ↓tq_r, ↓bq_n, ↓bq_e, ↓bq_r, ↓rq_n, ↓rq_r, ↓rq_e]
    have hle : h'.le (H.del b) := hg.le
    refine ⟨_, h', (RGh.fix hg.blk 1).trans (RGh.forget (r' := grp n e) (AV.le.slice ?_ fun j x y hx hy => ?_) hle), rfl, rfl⟩
    · simp [hg.len]
    · have hj : j < n.toNat := by have := (List.getElem?_eq_some_iff.1 hx).1; simpa using this
      have e1 := hg.cell j hj
      rw [List.getElem?_take, if_pos (by omega), e1] at hy
      cases hy
      simp [hj] at hx
      subst hx
      exact asl_le _ _
end Go.Proofs.Yticiimmfjdkimaa
