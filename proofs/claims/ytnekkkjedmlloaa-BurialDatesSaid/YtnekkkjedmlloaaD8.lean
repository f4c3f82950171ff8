/- A table of numbers in memory: rows in blocks of their own. No condition. -/
import Derived.Test.YtnekkkjedmlloaaD7
namespace Go.Abs
open Go
set_option linter.unusedSimpArgs false
set_option linter.unusedVariables false

def rowL (n : Nat) (M : Mx) (i : Nat) : List Int := (List.range n).map (M i)
theorem rowL_len (n : Nat) (M : Mx) (i : Nat) : (rowL n M i).length = n := by simp [rowL]
theorem rowL_get {n : Nat} (M : Mx) (i : Nat) {j : Nat} (hj : j < n) : (rowL n M i).getD j 0 = M i j := by simp [rowL, List.getD, hj]
def mcell (B : Nat → Nat) (n K i : Nat) : AV := if i < K then .msl (B i) 0 n (some n) else .sl true 0 [] .full
/-- A table with n rows of n numbers, of which the first K are there. -/
structure MInv (h0 : AH) (bm : Nat) (B : Nat → Nat) (n K : Nat) (M : Mx) (h : AH) : Prop where
  mat : h.blk bm = some ((List.range n).map (mcell B n K))
  row : ∀ i, i < K → h.blk (B i) = some (i64s (rowL n M i))
  inj : ∀ i j, i < K → j < K → B i = B j → i = j
  ne : ∀ i, i < K → B i ≠ bm
  freshM : h0.blk bm = none
  freshR : ∀ i, i < K → h0.blk (B i) = none
  le : h0.le h

theorem i64s_set (xs : List Int) (j : Nat) (v : Int) : (i64s xs).set j (I v) = i64s (xs.set j v) := by simp [i64s, List.map_set]
theorem rowL_lim (n : Nat) (M : Mx) (i j : Nat) (c : Int) (hj : j < n) : (rowL n M i).set j (min (M i j) c) = rowL n (lim M i j c) i := by
  apply List.ext_getElem
  · simp [rowL]
  · intro q h1 h2
    simp only [rowL, List.length_set, List.length_map, List.length_range] at h1 h2
    simp only [rowL, List.getElem_set, List.getElem_map, List.getElem_range]
    by_cases hq : j = q
    · subst hq; rw [if_pos rfl, lim_at]
    · rw [if_neg hq, lim_ne _ _ (by omega)]
theorem rowL_lim_ne {n : Nat} (M : Mx) {i j a : Nat} (c : Int) (h : a ≠ i) : rowL n (lim M i j c) a = rowL n M a := by
  unfold rowL
  refine List.map_congr_left fun b _ => lim_ne _ _ (fun hh => h hh.1)
theorem MInv.lim {h0 h : AH} {bm : Nat} {B : Nat → Nat} {n K : Nat} {M : Mx} (k : MInv h0 bm B n K M h) {i j : Nat} (hi : i < K) (c : Int) : MInv h0 bm B n K (Abs.lim M i j c) (h.put (B i) (i64s (rowL n (Abs.lim M i j c) i))) where
  mat := by rw [AH.blk_put_ne _ _ (fun hh => k.ne i hi hh.symm)]; exact k.mat
  row := fun a ha => by
    by_cases hai : a = i
    · subst hai; exact AH.blk_put _ _ _
    · rw [AH.blk_put_ne _ _ (fun hh => hai (k.inj a i ha hi hh)), rowL_lim_ne M c hai]; exact k.row a ha
  inj := k.inj
  ne := k.ne
  freshM := k.freshM
  freshR := k.freshR
  le := AH.le_put k.le (k.freshR i hi)
theorem MInv.cast {h0 h : AH} {bm : Nat} {B : Nat → Nat} {n K : Nat} {M M' : Mx} (k : MInv h0 bm B n K M h) (e : M = M') : MInv h0 bm B n K M' h := e ▸ k
/-- Another block does not matter. -/
theorem MInv.other {h0 h : AH} {bm : Nat} {B : Nat → Nat} {n K : Nat} {M : Mx} (k : MInv h0 bm B n K M h) {b : Nat} (hb : h.blk b = none) (cs : List AV) : MInv h0 bm B n K M (h.put b cs) where
  mat := by rw [AH.blk_put_ne _ _ (fun hh => by subst hh; rw [k.mat] at hb; cases hb)]; exact k.mat
  row := fun a ha => by rw [AH.blk_put_ne _ _ (fun hh => by rw [← hh, k.row a ha] at hb; cases hb)]; exact k.row a ha
  inj := k.inj
  ne := k.ne
  freshM := k.freshM
  freshR := k.freshR
  le := AH.le_put k.le (AH.none_of_le k.le hb)
theorem MInv.cell {h0 h : AH} {bm : Nat} {B : Nat → Nat} {n K : Nat} {M : Mx} (k : MInv h0 bm B n K M h) {i : Nat} (hi : i < K) (hn : K ≤ n) : ((List.range n).map (mcell B n K)).drop i = .msl (B i) 0 n (some n) :: ((List.range n).map (mcell B n K)).drop (i + 1) :=
  drop_of_get (by have : i < n := by omega
                  simp [mcell, hi, this])
theorem MInv.rowd {n : Nat} (M : Mx) (i : Nat) {j : Nat} (hj : j < n) : (i64s (rowL n M i)).drop j = I (M i j) :: (i64s (rowL n M i)).drop (j + 1) := by
  rw [i64s_drop (by rw [rowL_len]; exact hj), rowL_get M i hj]

/-- A table whose rows are fixed. -/
def matV (n : Nat) (M : Mx) : AV := .sl false n ((List.range n).map fun i => .sl false n (i64s (rowL n M i)) .unk) .unk

theorem HSim.fixRows {w0 : World} {own : Nat → Prop} {w : World} {h0 : AH} {bm : Nat} {B : Nat → Nat} {n : Nat} {M : Mx} (hfm : h0.blk bm = none) (hfr : ∀ i, i < n → h0.blk (B i) = none) (hinj : ∀ i j, i < n → j < n → B i = B j → i = j) (hne : ∀ i, i < n → B i ≠ bm) :
    ∀ (d K : Nat), K + d = n → ∀ (s : Sg) (h : AH), HSim s h w0 own w → h.blk bm = some ((List.range n).map fun i => if i < K then .sl false n (i64s (rowL n M i)) .unk else .msl (B i) 0 n (some n)) → (∀ i, K ≤ i → i < n → h.blk (B i) = some (i64s (rowL n M i))) → h0.le h →
      ∃ s' h', s.le s' ∧ HSim s' h' w0 own w ∧ h'.blk bm = some ((List.range n).map fun i => .sl false n (i64s (rowL n M i)) .unk) ∧ h0.le h' := by
  intro d
  induction d with
  | zero =>
    intro K hK s h hs hb _ hle
    refine ⟨s, h, Sg.le.refl s, hs, ?_, hle⟩
    rw [hb]
    congr 1
    refine List.map_congr_left fun i hi => ?_
    have : i < K := by have := List.mem_range.1 hi; omega
    rw [if_pos this]
  | succ d ih =>
    intro K hK s h hs hb hr hle
    have hKn : K < n := by omega
    obtain ⟨s', l1, l2⟩ := hs.fixIn (i := K) (bi := B K) (n := n) (cap := some n) hb (by simp [hKn]) (hr K (Nat.le_refl K) hKn) (hne K hKn) 1
    have ht : (i64s (rowL n M K)).take (n * 1) = i64s (rowL n M K) := List.take_of_length_le (by rw [i64s_len, rowL_len]; omega)
    rw [ht] at l2
    have hset : ((List.range n).map fun i => if i < K then AV.sl false n (i64s (rowL n M i)) .unk else .msl (B i) 0 n (some n)).set K (.sl false n (i64s (rowL n M K)) .unk) = (List.range n).map fun i => if i < K + 1 then AV.sl false n (i64s (rowL n M i)) .unk else .msl (B i) 0 n (some n) := by
      apply List.ext_getElem
      · simp
      · intro q h1 h2
        simp only [List.getElem_set, List.getElem_map, List.getElem_range]
        by_cases hq : K = q
        · subst hq; simp
        · rw [if_neg hq]
          by_cases hq2 : q < K
          · rw [if_pos hq2, if_pos (by omega)]
          · rw [if_neg hq2, if_neg (by omega)]
    rw [hset] at l2
    obtain ⟨s2, h2, a1, a2, a3, a4⟩ := ih (K + 1) (by omega) s' _ l2 (AH.blk_put _ _ _) (fun i h1 h2 => by
      rw [AH.blk_put_ne _ _ (hne i h2)]
      show (if B i = B K then none else h.blk (B i)) = _
      rw [if_neg (fun hh => by have := hinj i K h2 hKn hh; omega)]
      exact hr i (by omega) h2) (by
      refine AH.le_put ⟨fun x c e => ?_, hle.tok, hle.mp⟩ hfm
      show (if x = B K then none else h.blk x) = _
      rw [if_neg (fun hh => by subst hh; rw [hfr K hKn] at e; cases e)]
      exact hle.blk x c e)
    exact ⟨s2, h2, l1.trans a1, a2, a3, a4⟩
theorem MInv.fixAll {h0 h : AH} {bm : Nat} {B : Nat → Nat} {n : Nat} {M : Mx} (k : MInv h0 bm B n n M h) : RGh (.msl bm 0 n (some n)) h (matV n M) h0 := by
  intro s w0 own w v hs hv
  have hcells : h.blk bm = some ((List.range n).map fun i => if i < 0 then AV.sl false n (i64s (rowL n M i)) .unk else .msl (B i) 0 n (some n)) := by
    rw [k.mat]
    congr 1
    refine List.map_congr_left fun i hi => ?_
    have : i < n := List.mem_range.1 hi
    simp [mcell, this]
  obtain ⟨s1, h1, l1, a1, a2, a3⟩ := HSim.fixRows k.freshM k.freshR k.inj k.ne n 0 (by omega) s h hs hcells (fun i _ hi => k.row i hi) k.le
  obtain ⟨s2, l2, b1, b2⟩ := RGh.fix (n := n) (cap := some n) a2 1 s1 w0 own w v a1 (hv.mono l1)
  refine ⟨s2, l1.trans l2, b1.weaken ⟨fun x c e => ?_, a3.tok, a3.mp⟩, ?_⟩
  · show (if x = bm then none else h1.blk x) = _
    rw [if_neg (fun hh => by subst hh; rw [k.freshM] at e; cases e)]
    exact a3.blk x c e
  · have : ((List.range n).map fun i => AV.sl false n (i64s (rowL n M i)) .unk).take (n * 1) = (List.range n).map fun i => AV.sl false n (i64s (rowL n M i)) .unk := List.take_of_length_le (by simp)
    rw [this] at b2
    exact b2
theorem RGh.tup2 {a b a' b' : AV} {h h' : AH} (ha : RGh a h a' h') (hb : AV.le b' b) : RGh (.tup [a, b]) h (.tup [a', b']) h' := by
  intro s w0 own w v hs hv
  obtain ⟨vs, rfl, h1, h2⟩ := hv.tup_inv
  obtain ⟨x, y, rfl⟩ : ∃ x y, vs = [x, y] := by
    match vs, h1 with
    | [x, y], _ => exact ⟨x, y, rfl⟩
  obtain ⟨s', l1, l2, l3⟩ := ha s w0 own w x hs (h2 0 a x rfl rfl)
  refine ⟨s', l1, l2, ?_⟩
  have := VRels.cons l3 (VRels.cons (hb _ _ ((h2 1 b y rfl rfl).mono l1)) (.nil s'))
  exact .tup _ [x, y] this.1 this.2
end Go.Abs
namespace Go.Proofs.Ytnekkkjedmlloaa
open Go Go.Abs
set_option linter.unusedSimpArgs false
set_option linter.unusedVariables false
set_option maxRecDepth 20000
theorem s_dating_limit {h0 h : AH} {bm : Nat} {B : Nat → Nat} {n : Nat} {M : Mx} (k : MInv h0 bm B n n M h) {i j : Nat} (hi : i < n) (hj : j < n) (c : Int) :
    ACalls Try.prog n_dating_closed_limit [.msl bm 0 n (some n), I i, I j, I c] h (fun r h'' => h'' = h.put (B i) (i64s (rowL n (lim M i j c) i))) := by
  refine ACalls.of hm cF_dating_closed_limit (by simp [g_dating_closed_limit]) fun hw => ?_
  have ci : (i : Int) < (n : Int) := by omega
  have cj : (j : Int) < (n : Int) := by omega
  have d1 := k.cell hi (Nat.le_refl n)
  have d2 := MInv.rowd (n := n) M i hj
  have hl : (i64s (rowL n M i)).length = n := by rw [i64s_len, rowL_len]
  have hj1 : j + 1 ≤ n := by omega
  have hs : (i64s (rowL n M i)).set j (AV.int .i64 (min (M i j) c)) = i64s (rowL n (lim M i j c) i) := by
    rw [i64s_set, rowL_lim n M i j c hj]
  simp only [ci, cj, k.mat, d1, k.row i hi, d2, hl, hj1, hs, F_dating_closed_limit, g_dating_closed_limit, go_sem, reduceIte, Nat.reduceEqDiff, Nat.reduceAdd, Nat.reduceMul, Nat.reduceSub, reduceCtorEq, Nat.reduceLeDiff, Nat.reduceLT, Int.reduceLT, Int.reduceLE, Int.reduceToNat, Int.reduceAdd, Int.reduceSub, Int.reduceNeg, Int.reduceMul, Int.reduceEq, ← Bool.decide_and, ← Bool.decide_or, ↓tq_n, ↓tq_e, ↓tq_r, ↓bq_n, ↓bq_e, ↓bq_r, ↓rq_n, ↓rq_r, ↓rq_e]
  exact ⟨_, _, RGh.refl _ _, rfl⟩
end Go.Proofs.Ytnekkkjedmlloaa
