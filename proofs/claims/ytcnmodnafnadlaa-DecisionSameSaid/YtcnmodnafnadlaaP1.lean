/- Ledgers as lists: the program's, in the order of its calls, and the reference's, in order, go together. No condition. -/
import Derived.Test.YtcnmodnafnadlaaD4
namespace Go.Proofs.Ytcnmodnafnadlaa
open Go Go.Abs Go.Sort
set_option linter.unusedSimpArgs false
set_option linter.unusedVariables false
set_option maxRecDepth 20000

theorem mlt_tr {a b c : Int × Int} (h1 : mlt a b) (h2 : mlt b c) : mlt a c := by unfold mlt at *; omega
theorem mlt_irr (a : Int × Int) : ¬ mlt a a := by unfold mlt; omega
theorem mlt_tri {a b : Int × Int} (h1 : ¬ mlt a b) (h2 : a ≠ b) : mlt b a := by
  have h3 : ¬ (a.1 = b.1 ∧ a.2 = b.2) := fun hh => h2 (Prod.ext hh.1 hh.2)
  unfold mlt at *; omega
def ltD (x y : Dec) : Prop := mlt x.mk2 y.mk2
theorem mem_getD {α : Type} {l : List α} {i : Nat} {d : α} (h : i < l.length) : l.getD i d ∈ l := by rw [getD_lt d h]; exact List.getElem_mem h
theorem getD_drop {α : Type} (l : List α) (d : α) {i : Nat} (h : i < l.length) : l.drop i = l.getD i d :: l.drop (i + 1) := by rw [getD_lt d h]; exact List.drop_eq_getElem_cons h
section
variable {α : Type} {lt : α → α → Prop} (tr : ∀ {x y z}, lt x y → lt y z → lt x z)
theorem ins_mem {out : List α} {x y : α} {s : Nat} : y ∈ out.take s ++ [x] ++ out.drop s ↔ y ∈ out ∨ y = x := by
  have h : y ∈ out ↔ y ∈ out.take s ∨ y ∈ out.drop s := by rw [← List.mem_append, List.take_append_drop]
  rw [h, List.mem_append, List.mem_append, List.mem_singleton]
  constructor
  · rintro ((a | a) | a)
    · exact .inl (.inl a)
    · exact .inr a
    · exact .inl (.inr a)
  · rintro ((a | a) | a)
    · exact .inl (.inl a)
    · exact .inr a
    · exact .inl (.inr a)
include tr
theorem ins_pw {out : List α} {x : α} (d : α) (ho : out.Pairwise lt) {s : Nat} (hs : s ≤ out.length) (h1 : ∀ t, t < s → lt (out.getD t d) x) (h2 : s < out.length → lt x (out.getD s d)) : (out.take s ++ [x] ++ out.drop s).Pairwise lt := by
  have hlow : ∀ y ∈ out.take s, lt y x := fun y hy => by
    obtain ⟨t, ht, e⟩ := List.getElem_of_mem hy
    rw [List.length_take] at ht
    have := h1 t (by omega)
    rw [List.getElem_take] at e
    have e2 : out.getD t d = y := by rw [← e]; simp [List.getD, show t < out.length by omega]
    rwa [e2] at this
  have hhigh : ∀ y ∈ out.drop s, lt x y := fun y hy => by
    have hsl : s < out.length := by
      cases h : out.drop s with
      | nil => rw [h] at hy; cases hy
      | cons a b => have := congrArg List.length h; simp at this; omega
    have h4 := h2 hsl
    rw [getD_drop out d hsl] at hy
    rcases List.mem_cons.1 hy with rfl | hy
    · exact h4
    · have h5 : (out.drop s).Pairwise lt := ho.sublist (List.drop_sublist s out)
      rw [getD_drop out d hsl] at h5
      exact tr h4 ((List.pairwise_cons.1 h5).1 y hy)
  rw [List.append_assoc]
  refine List.pairwise_append.2 ⟨ho.sublist (List.take_sublist s out), List.pairwise_cons.2 ⟨hhigh, ho.sublist (List.drop_sublist s out)⟩, fun a ha b hb => ?_⟩
  rcases List.mem_cons.1 hb with rfl | hb
  · exact hlow a ha
  · exact tr (hlow a ha) (hhigh b hb)
theorem asc_ext (irr : ∀ x, ¬ lt x x) {l1 l2 : List α} (h1 : l1.Pairwise lt) (h2 : l2.Pairwise lt) (h : ∀ x, x ∈ l1 ↔ x ∈ l2) : l1 = l2 := by
  have nd : ∀ {l : List α}, l.Pairwise lt → l.Nodup := fun hl => List.nodup_iff_pairwise_ne.2 (hl.imp fun {a b} hxy (e : a = b) => irr b (by rw [e] at hxy; exact hxy))
  refine List.Perm.eq_of_pairwise (le := lt) (fun a b _ _ ha hb => absurd (tr ha hb) (irr a)) h1 h2 (perm_of_mem (nd h1) (nd h2) h)
end
/-- Decisions, and marks, in order. -/
def srtD (M : List Dec) : List Dec := M.mergeSort fun x y => !ltOf cfD y x
def srtM (W : List (Int × Int)) : List (Int × Int) := W.mergeSort fun x y => !ltOf cfM y x
theorem srtD_perm (M : List Dec) : (srtD M).Perm M := List.mergeSort_perm _ _
theorem srtM_perm (W : List (Int × Int)) : (srtM W).Perm W := List.mergeSort_perm _ _
theorem srtD_len (M : List Dec) : (srtD M).length = M.length := (srtD_perm M).length_eq
theorem srtM_len (W : List (Int × Int)) : (srtM W).length = W.length := (srtM_perm W).length_eq
theorem mem_srtD {M : List Dec} {x : Dec} : x ∈ srtD M ↔ x ∈ M := (srtD_perm M).mem_iff
theorem mem_srtM {W : List (Int × Int)} {x : Int × Int} : x ∈ srtM W ↔ x ∈ W := (srtM_perm W).mem_iff
def Dst (M : List Dec) : Prop := M.Pairwise fun x y => x.mk2 ≠ y.mk2
theorem le_tot {α : Type} {lt : α → α → Bool} (hS : SWO lt) (l : List α) : (l.mergeSort fun x y => !lt y x).Pairwise fun x y => (!lt y x) = true := by
  refine List.pairwise_mergeSort ?_ ?_ _
  · intro a b c h1 h2
    simp only [Bool.not_eq_true'] at h1 h2 ⊢
    exact hS.ntrans c b a h2 h1
  · intro a b
    cases h : lt b a with
    | false => simp
    | true => simp [hS.asymmA h]
theorem srtD_asc {M : List Dec} (h : Dst M) : (srtD M).Pairwise ltD := by
  have h1 := le_tot cfD_swo M
  have h2 : (srtD M).Pairwise fun x y => x.mk2 ≠ y.mk2 := (srtD_perm M).symm.pairwise h (fun {a b} hh e => hh e.symm)
  refine (h1.and h2).imp fun {x y} hxy => ?_
  obtain ⟨a, b⟩ := hxy
  have h3 : ¬ mlt y.mk2 x.mk2 := fun hh => by
    have := (ltD_iff y x).2 hh
    rw [this] at a; cases a
  exact mlt_tri h3 (Ne.symm b)
theorem srtM_asc {W : List (Int × Int)} (h : W.Nodup) : (srtM W).Pairwise mlt := by
  have h1 := le_tot cfM_swo W
  have h2 : (srtM W).Pairwise (· ≠ ·) := List.nodup_iff_pairwise_ne.1 ((srtM_perm W).nodup_iff.2 h)
  refine (h1.and h2).imp fun {x y} hxy => ?_
  obtain ⟨a, b⟩ := hxy
  have h3 : ¬ mlt y x := fun hh => by
    have := (ltM_iff y x).2 hh
    rw [this] at a; cases a
  exact mlt_tri h3 (Ne.symm b)
theorem srtD_uniq {M D : List Dec} (hM : Dst M) (hD : D.Pairwise ltD) (h : ∀ x, x ∈ D ↔ x ∈ M) : D = srtD M :=
  asc_ext (lt := ltD) (fun a b => mlt_tr a b) (fun x => mlt_irr _) hD (srtD_asc hM) fun x => (h x).trans mem_srtD.symm
theorem srtM_uniq {W D : List (Int × Int)} (hW : W.Nodup) (hD : D.Pairwise mlt) (h : ∀ x, x ∈ D ↔ x ∈ W) : D = srtM W :=
  asc_ext (lt := mlt) (fun a b => mlt_tr a b) mlt_irr hD (srtM_asc hW) fun x => (h x).trans mem_srtM.symm
/-- What holds of ledgers. -/
structure OKs (s : St) : Prop where
  few : Few s
  dst : Dst s.1
  nd : s.2.Nodup
def srS (s : St) : St := (srtD s.1, srtM s.2)
theorem find_none {M : List Dec} {d : Dec} (h : M.find? (fun x => decide (d.mk2 = x.mk2)) = none) : ∀ x ∈ M, x.mk2 ≠ d.mk2 := fun x hx hh => by
  have := List.find?_eq_none.1 h x hx
  simp [hh] at this
theorem find_some {M : List Dec} {d o : Dec} (h : M.find? (fun x => decide (d.mk2 = x.mk2)) = some o) : o ∈ M ∧ o.mk2 = d.mk2 :=
  ⟨List.mem_of_find?_eq_some h, by have := List.find?_some h; simpa using (of_decide_eq_true this).symm⟩
theorem dst_snoc {M : List Dec} {d : Dec} (h : Dst M) (hd : ∀ x ∈ M, x.mk2 ≠ d.mk2) : Dst (M ++ [d]) :=
  List.pairwise_append.2 ⟨h, by simp, fun a ha b hb => by rw [List.mem_singleton.1 hb]; exact hd a ha⟩
theorem dst_uniq {M : List Dec} (h : Dst M) {x y : Dec} (hx : x ∈ M) (hy : y ∈ M) (e : x.mk2 = y.mk2) : x = y := by
  obtain ⟨i, hi, rfl⟩ := List.getElem_of_mem hx
  obtain ⟨j, hj, rfl⟩ := List.getElem_of_mem hy
  unfold Dst at h
  rw [List.pairwise_iff_getElem] at h
  rcases Nat.lt_trichotomy i j with hh | hh | hh
  · exact absurd e (h i j hi hj hh)
  · subst hh; rfl
  · exact absurd e.symm (h j i hj hi hh)
theorem mkL_dst {M : List Dec} (h : Dst M) (d : Dec) : Dst (mkL M d).2 := by
  unfold mkL
  split
  · cases ho : M.find? fun x => decide (d.mk2 = x.mk2) with
    | some o => simp only; split <;> exact h
    | none =>
      simp only
      split
      · exact h
      · exact dst_snoc h (find_none ho)
  · exact h
theorem wdL_nd {W : List (Int × Int)} (h : W.Nodup) (m : Int × Int) : (wdL W m).2.Nodup := by
  unfold wdL
  repeat' split
  all_goals first | exact h | skip
  refine List.nodup_append.2 ⟨h, by simp, fun a ha b hb => ?_⟩
  rw [List.mem_singleton.1 hb]
  rintro rfl
  contradiction
theorem doA_ok {s : St} (h : OKs s) (o : Op) : OKs (doA s o).2 := by
  refine ⟨doA_few h.few o, ?_, ?_⟩ <;> unfold doA <;> split
  · exact h.dst
  · exact mkL_dst h.dst _
  · exact wdL_nd h.nd _
  · exact h.nd
theorem psD_found {D : List Dec} (hD : D.Pairwise ltD) {d o : Dec} (ho : o ∈ D) (he : o.mk2 = d.mk2) : psD D d < D.length ∧ D.getD (psD D d) dD = o := by
  obtain ⟨j, hj, rfl⟩ := List.getElem_of_mem ho
  have hle := psD_le D d
  rw [List.pairwise_iff_getElem] at hD
  rcases Nat.lt_trichotomy (psD D d) j with hh | hh | hh
  · have h1 := psD_at (a := D) (x := d) (by omega)
    rw [getD_lt dD (show psD D d < D.length by omega)] at h1
    have := hD _ j (by omega) hj hh
    unfold ltD at this
    rw [he] at this
    exact absurd this h1
  · rw [hh]; exact ⟨hj, getD_lt dD hj⟩
  · have h1 := psD_lt hh
    rw [getD_lt dD hj, he] at h1
    exact absurd h1 (mlt_irr _)
theorem psM_found {D : List (Int × Int)} (hD : D.Pairwise mlt) {d : Int × Int} (ho : d ∈ D) : psM D d < D.length ∧ D.getD (psM D d) (0, 0) = d := by
  obtain ⟨j, hj, he⟩ := List.getElem_of_mem ho
  have hle := psM_le D d
  rw [List.pairwise_iff_getElem] at hD
  rcases Nat.lt_trichotomy (psM D d) j with hh | hh | hh
  · have h1 := psM_at (a := D) (x := d) (by omega)
    rw [getD_lt (0, 0) (show psM D d < D.length by omega)] at h1
    have := hD _ j (by omega) hj hh
    rw [he] at this
    exact absurd this h1
  · rw [hh]; exact ⟨hj, by rw [getD_lt (0, 0) hj, he]⟩
  · have h1 := psM_lt hh
    rw [getD_lt (0, 0) hj, he] at h1
    exact absurd h1 (mlt_irr _)
theorem insD_new {D : List Dec} (hD : D.Pairwise ltD) {d : Dec} (hn : ∀ x ∈ D, x.mk2 ≠ d.mk2) : ∃ D', insD D d = some D' ∧ D'.Pairwise ltD ∧ D'.length = D.length + 1 ∧ ∀ x, x ∈ D' ↔ x ∈ D ∨ x = d := by
  refine ⟨D.take (psD D d) ++ [d] ++ D.drop (psD D d), ?_, ?_, ins_len, fun x => ins_mem⟩
  · unfold insD
    rw [if_neg fun hh => hn _ (mem_getD hh.1) hh.2]
  · exact ins_pw (lt := ltD) (fun a b => mlt_tr a b) dD hD (psD_le _ _) (fun t ht => psD_lt ht) fun h => mlt_tri (psD_at h) (hn _ (mem_getD h))
theorem insD_old {D : List Dec} (hD : D.Pairwise ltD) {d o : Dec} (ho : o ∈ D) (he : o.mk2 = d.mk2) : insD D d = if o = d then some D else none := by
  obtain ⟨h1, h2⟩ := psD_found hD ho he
  unfold insD
  rw [h2, if_pos ⟨h1, he⟩]
theorem insM_new {D : List (Int × Int)} (hD : D.Pairwise mlt) {d : Int × Int} (hn : d ∉ D) : (insM D d).Pairwise mlt ∧ (insM D d).length = D.length + 1 ∧ ∀ x, x ∈ insM D d ↔ x ∈ D ∨ x = d := by
  have e : insM D d = D.take (psM D d) ++ [d] ++ D.drop (psM D d) := by
    unfold insM
    rw [if_neg fun hh => hn (by rw [← hh.2]; exact mem_getD hh.1)]
  rw [e]
  refine ⟨ins_pw (lt := mlt) (fun a b => mlt_tr a b) (0, 0) hD (psM_le _ _) (fun t ht => psM_lt ht) fun h => mlt_tri (psM_at h) (fun hh => hn (by rw [← hh]; exact mem_getD h)), ins_len, fun x => ins_mem⟩
theorem insM_old {D : List (Int × Int)} (hD : D.Pairwise mlt) {d : Int × Int} (ho : d ∈ D) : insM D d = D := by
  obtain ⟨h1, h2⟩ := psM_found hD ho
  unfold insM
  rw [if_pos ⟨h1, h2⟩]
theorem mk_sim {M : List Dec} (h : Dst M) (hl : M.length ≤ 200) (d : Dec) : rmkL (srtD M) d = ((mkL M d).1, srtD (mkL M d).2) := by
  have hs := srtD_asc h
  unfold rmkL mkL
  by_cases c : dcOK d
  case neg => rw [if_neg c, if_neg c]
  rw [if_pos c, if_pos c]
  cases ho : M.find? fun x => decide (d.mk2 = x.mk2) with
  | some o =>
    obtain ⟨h1, h2⟩ := find_some ho
    rw [insD_old hs (mem_srtD.2 h1) h2]
    by_cases e : o = d
    · rw [if_pos e]
      simp only
      rw [if_neg (by rw [srtD_len]; omega), if_pos e]
    · rw [if_neg e]
      simp only
      rw [if_neg e]
  | none =>
    have hn := find_none ho
    obtain ⟨D', h1, h2, h3, h4⟩ := insD_new hs (fun x hx => hn x (mem_srtD.1 hx))
    rw [h1]
    simp only
    rw [srtD_len] at h3
    by_cases e : 200 ≤ M.length
    · rw [if_pos (by omega), if_pos e]
    · rw [if_neg (by omega), if_neg e]
      refine Prod.ext rfl (srtD_uniq (dst_snoc h hn) h2 fun x => ?_)
      rw [h4, mem_srtD, List.mem_append, List.mem_singleton]
theorem wd_sim {W : List (Int × Int)} (h : W.Nodup) (hl : W.length ≤ 200) (m : Int × Int) : rwdL (srtM W) m = ((wdL W m).1, srtM (wdL W m).2) := by
  have hs := srtM_asc h
  have hnd := wdL_nd h m
  unfold rwdL wdL at *
  by_cases c : mkOK m
  case neg => rw [if_neg c, if_neg c]
  rw [if_pos c] at hnd
  rw [if_pos c, if_pos c]
  by_cases e : m ∈ W
  · rw [insM_old hs (mem_srtM.2 e), if_pos e, if_neg (by rw [srtM_len]; omega)]
  · obtain ⟨h2, h3, h4⟩ := insM_new hs (fun hh => e (mem_srtM.1 hh))
    rw [srtM_len] at h3
    rw [if_neg e] at hnd
    rw [if_neg e]
    by_cases e2 : 200 ≤ W.length
    · rw [if_pos (by omega), if_pos e2]
    · rw [if_neg e2] at hnd
      rw [if_neg (by omega), if_neg e2]
      refine Prod.ext rfl (srtM_uniq hnd h2 fun x => ?_)
      rw [h4, mem_srtM]
      simp
theorem do_sim {s : St} (h : OKs s) (o : Op) : doR (srS s) o = ((doA s o).1, srS (doA s o).2) := by
  unfold doR doA srS
  split
  · simp only; rw [wd_sim h.nd h.few.2]
  · simp only; rw [mk_sim h.dst h.few.1]
end Go.Proofs.Ytcnmodnafnadlaa
