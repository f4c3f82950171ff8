/- Calls of functions of this seat's program: what repairs, and the cheapest orders. No condition. -/
import Derived.Test.YtemfmnjhhdeedaaD14
namespace Go.Proofs.Ytemfmnjhhdeedaa
open Go Go.Abs
set_option linter.unusedSimpArgs false
set_option linter.unusedVariables false
set_option maxRecDepth 20000

/-- Where a vertex stands. -/
def psK (o : List Int) (x : Int) : Nat → Nat
  | 0 => 0
  | k + 1 => if o.getD k 0 = x then k else psK o x k
def blR (a : List (Int × Int)) (o : List Int) (i : Nat) : Bool := decide (psK o (a.getD i (0, 0)).2 o.length < psK o (a.getD i (0, 0)).1 o.length)
def brF (a : List (Int × Int)) (o : List Int) (i : Nat) : List Nat := (List.range i).filter (blR a o)
theorem brF_succ (a : List (Int × Int)) (o : List Int) (i : Nat) : brF a o (i + 1) = if blR a o i = true then brF a o i ++ [i] else brF a o i := by
  unfold brF
  rw [List.range_succ, List.filter_append]
  by_cases h : blR a o i = true
  · rw [if_pos h]; simp [h]
  · rw [if_neg h]; simp [h]
theorem brF_len (a : List (Int × Int)) (o : List Int) (i : Nat) : (brF a o i).length ≤ i := by
  have := List.length_filter_le (blR a o) (List.range i)
  rw [List.length_range] at this
  exact this
theorem psK_at {q : List Nat} (hq : q.Nodup) {j : Nat} (hj : j < q.length) : ∀ k, j < k → k ≤ q.length → psK (nats q) (q.getD j 0 : Nat) k = j := by
  intro k
  induction k with
  | zero => intro h; omega
  | succ k ih =>
    intro h1 h2
    have hk : k < q.length := by omega
    have e : (nats q).getD k 0 = ((q.getD k 0 : Nat) : Int) := by simp [nats, List.getD, hk]
    unfold psK
    rw [e]
    by_cases hjk : k = j
    · subst hjk; rw [if_pos rfl]
    · have hne : ¬ ((q.getD k 0 : Nat) : Int) = ((q.getD j 0 : Nat) : Int) := fun hh => by
        have h3 : q.getD k 0 = q.getD j 0 := by omega
        have := (List.pairwise_iff_getElem.1 hq) j k (by omega) hk (by omega)
        simp [List.getD, hj, hk] at h3
        exact this h3.symm
      rw [if_neg hne]
      exact ih (by omega) (by omega)
theorem full_mem {n : Nat} {q : List Nat} (hq : Pre n q) (hl : q.length = n) {x : Nat} (hx : x < n) : x ∈ q := by
  refine Classical.byContradiction fun hn => ?_
  have := nd_lenN (n := n) (List.nodup_cons.2 ⟨hn, hq.1⟩) (fun y hy => by
    rcases List.mem_cons.1 hy with rfl | hy
    · exact hx
    · exact hq.2 y hy)
  simp at this
  omega
theorem blR_eq {n : Nat} {a : List (Int × Int)} (he : Ev n a) {q : List Nat} (hq : Pre n q) (hl : q.length = n) {i : Nat} (hi : i < a.length) : blR a (nats q) i = bB a q i := by
  obtain ⟨e1, e2, e3, e4⟩ := ev_k he hi
  obtain ⟨j, hj, ej⟩ := List.getElem_of_mem (full_mem hq hl e3)
  obtain ⟨k, hk, ek⟩ := List.getElem_of_mem (full_mem hq hl e2)
  have gj : q.getD j 0 = tt a i := by simp [List.getD, hj, ej]
  have gk : q.getD k 0 = fr a i := by simp [List.getD, hk, ek]
  have pj := psK_at hq.1 hj q.length hj (Nat.le_refl _)
  have pk := psK_at hq.1 hk q.length hk (Nat.le_refl _)
  rw [gj] at pj
  rw [gk] at pk
  unfold blR
  rw [e1, nats_len]
  simp only
  rw [pj, pk, Bool.eq_iff_iff, decide_eq_true_eq]
  unfold bB
  rw [List.any_eq_true]
  have huni : ∀ {x y : Nat}, x < q.length → y < q.length → q.getD x 0 = q.getD y 0 → x = y := fun {x y} hx hy he => by
    have h1 := psK_at hq.1 hx q.length hx (Nat.le_refl _)
    have h2 := psK_at hq.1 hy q.length hy (Nat.le_refl _)
    rw [he] at h1
    omega
  constructor
  · intro h
    refine ⟨k, List.mem_range.2 hk, ?_⟩
    rw [Bool.and_eq_true, decide_eq_true_eq, decide_eq_true_eq]
    refine ⟨gk, ?_⟩
    rw [List.mem_take_iff_getElem]
    exact ⟨j, by omega, ej⟩
  · rintro ⟨k', h1, h2⟩
    rw [Bool.and_eq_true, decide_eq_true_eq, decide_eq_true_eq, List.mem_take_iff_getElem] at h2
    obtain ⟨h3, j', h4, h5⟩ := h2
    have hk' := List.mem_range.1 h1
    have a1 : k' = k := huni hk' hk (by rw [h3, gk])
    have hj' : j' < q.length := by omega
    have a2 : j' = j := huni hj' hj (by rw [gj]; simp [List.getD, hj', h5])
    omega
theorem brF_eq {n : Nat} {a : List (Int × Int)} (he : Ev n a) {q : List Nat} (hq : Pre n q) (hl : q.length = n) : brF a (nats q) a.length = Bl a q := by
  unfold brF Bl
  refine List.filter_congr fun i hi => ?_
  exact blR_eq he hq hl (List.mem_range.1 hi)
theorem csK_app (w s t : List Int) : ∀ k, k ≤ s.length → csK w (s ++ t) k = csK w s k := by
  intro k
  induction k with
  | zero => intro _; rfl
  | succ k ih =>
    intro hk
    simp only [csK]
    rw [ih (by omega)]
    have : (s ++ t).getD k 0 = s.getD k 0 := by simp [List.getD, List.getElem?_append, show k < s.length by omega]
    rw [this]
theorem csK_filter (w : List Int) (P : Nat → Bool) : ∀ k, csK w (nats ((List.range k).filter P)) (nats ((List.range k).filter P)).length = sumK w P k := by
  intro k
  induction k with
  | zero => rfl
  | succ k ih =>
    rw [List.range_succ, List.filter_append, nats_append]
    simp only [sumK]
    cases hp : P k with
    | false => simp [hp, nats] at ih ⊢; exact ih
    | true =>
      have e : List.filter P [k] = [k] := by simp [hp]
      rw [e, List.length_append]
      have e2 : (nats [k]).length = 1 := rfl
      rw [e2]
      simp only [csK]
      rw [csK_app _ _ _ _ (Nat.le_refl _), ih]
      congr 1
      simp [nats, List.getD]
theorem cs_Bl (a : List (Int × Int)) (w : List Int) (q : List Nat) : csK w (nats (Bl a q)) (nats (Bl a q)).length = bc a w q := csK_filter w (bB a q) a.length

theorem mem_rsK {s : List Int} {i k : Nat} : k ∈ rsK s i ↔ k < i ∧ (k : Int) ∉ s := by
  unfold rsK
  rw [List.mem_filter, List.mem_range]
  simp
section
variable {n : Nat} {a : List (Int × Int)} (he : Ev n a)
include he
/-- Without its backward pieces an order leads on. -/
theorem bl_repairs {q : List Nat} (hq : Pre n q) (hl : q.length = n) {s : List Int} (hs : ∀ i, i < a.length → bB a q i = true → (i : Int) ∈ s) : cyB n (sub a (nats (rsK s a.length))) = false := by
  refine Bool.eq_false_iff.2 fun hc => ?_
  obtain ⟨ks, u, h1, h2, h3⟩ := (cy_iff he (rsK_ix s a.length)).1 hc
  have hpos : ∀ k, k < a.length → (k : Int) ∉ s → psK (nats q) (fr a k : Nat) q.length < psK (nats q) (tt a k : Nat) q.length := fun k hk hn => by
    have hb : bB a q k = false := Bool.eq_false_iff.2 fun hh => hn (hs k hk hh)
    obtain ⟨e1, e2, e3, e4⟩ := ev_k he hk
    rw [← blR_eq he hq hl hk] at hb
    unfold blR at hb
    rw [e1, nats_len, decide_eq_false_iff_not] at hb
    simp only at hb
    obtain ⟨j, hj, ej⟩ := List.getElem_of_mem (full_mem hq hl e3)
    obtain ⟨m, hm, em⟩ := List.getElem_of_mem (full_mem hq hl e2)
    have gj : q.getD j 0 = tt a k := by simp [List.getD, hj, ej]
    have gm : q.getD m 0 = fr a k := by simp [List.getD, hm, em]
    have pj := psK_at hq.1 hj q.length hj (Nat.le_refl _)
    have pm := psK_at hq.1 hm q.length hm (Nat.le_refl _)
    rw [gj] at pj
    rw [gm] at pm
    rcases Nat.lt_trichotomy m j with h | h | h
    · omega
    · subst h; rw [gj] at gm; exact absurd gm.symm e4
    · omega
  have hwalk : ∀ (ks : List Nat) (u v : Nat), ks ≠ [] → IW a u ks v → (∀ k ∈ ks, (k : Int) ∉ s) → psK (nats q) (u : Nat) q.length < psK (nats q) (v : Nat) q.length := by
    intro ks
    induction ks with
    | nil => intro u v h; exact absurd rfl h
    | cons k ks ih =>
      intro u v _ hw hn
      have h4 := hpos k hw.1 (hn k (by simp))
      rw [hw.2.1] at h4
      cases ks with
      | nil => have h5 := hw.2.2; rw [show tt a k = v from h5] at h4; exact h4
      | cons k2 ks =>
        have := ih (tt a k) v (by simp) hw.2.2 (fun j hj => hn j (by simp [hj]))
        omega
  have := hwalk ks u u h1 h2 fun k hk => (mem_rsK.1 (mem_nats.1 (h3 k hk))).2
  omega
/-- What agrees can be put in order. -/
theorem topo {s : List Int} (h : cyB n (sub a (nats (rsK s a.length))) = false) : ∃ o, Pre n o ∧ o.length = n ∧ ∀ i, i < a.length → bB a o i = true → (i : Int) ∈ s := by
  have hix := rsK_ix s a.length
  have hno : ∀ v, v < n → ¬ Way (arcE n (sub a (nats (rsK s a.length)))) v v := fun v hv hw => by
    rw [(cyB_iff (sub_arc he hix)).2 ⟨v, hv, hw⟩] at h
    cases h
  obtain ⟨o, ho⟩ : ∃ o, o = (List.range n).mergeSort fun x y => decide (anc (arcE n (sub a (nats (rsK s a.length)))) n x ≤ anc (arcE n (sub a (nats (rsK s a.length)))) n y) := ⟨_, rfl⟩
  have hperm : o.Perm (List.range n) := by rw [ho]; exact List.mergeSort_perm _ _
  have hsort : o.Pairwise fun x y => anc (arcE n (sub a (nats (rsK s a.length)))) n x ≤ anc (arcE n (sub a (nats (rsK s a.length)))) n y := by
    rw [ho]
    refine (List.pairwise_mergeSort (fun x y z h1 h2 => ?_) (fun x y => ?_) _).imp fun h => of_decide_eq_true h
    · have := of_decide_eq_true h1
      have := of_decide_eq_true h2
      exact decide_eq_true (by omega)
    · rw [Bool.or_eq_true, decide_eq_true_eq, decide_eq_true_eq]
      omega
  refine ⟨o, ⟨hperm.nodup_iff.2 List.nodup_range, fun v hv => List.mem_range.1 (hperm.mem_iff.1 hv)⟩, by rw [hperm.length_eq, List.length_range], fun i hi hb => ?_⟩
  refine Classical.byContradiction fun hn => ?_
  have harc : arcE n (sub a (nats (rsK s a.length))) (fr a i) (tt a i) := (sub_E he hix).2 ⟨i, mem_nats.2 (mem_rsK.2 ⟨hi, hn⟩), hi, rfl, rfl⟩
  have hf := (ev_k he hi).2.1
  have hlt := anc_lt (n := n) hf harc (hno _ hf)
  unfold bB at hb
  obtain ⟨k, h1, h2⟩ := List.any_eq_true.1 hb
  rw [Bool.and_eq_true, decide_eq_true_eq, decide_eq_true_eq, List.mem_take_iff_getElem] at h2
  obtain ⟨h3, j, h4, h5⟩ := h2
  have hk := List.mem_range.1 h1
  have hj : j < o.length := by omega
  have h6 := (List.pairwise_iff_getElem.1 hsort) j k hj hk (by omega)
  rw [h5, show o[k] = fr a i by rw [← h3]; simp [List.getD, hk]] at h6
  omega
end
theorem cs_set {a : List (Int × Int)} {w s : List Int} (h : Ix a.length s) : csK w s s.length = sumK w (fun i => decide ((i : Int) ∈ s)) a.length := by
  have e : s = nats ((List.range a.length).filter fun i : Nat => decide ((i : Int) ∈ s)) := by
    refine asc_ext (ix_pw.1 h).2 ?_ fun x => ?_
    · unfold nats
      rw [List.pairwise_map]
      exact ((List.pairwise_lt_range).sublist List.filter_sublist).imp fun h => by omega
    · constructor
      · intro hx
        have := (ix_pw.1 h).1 x hx
        obtain ⟨k, rfl⟩ : ∃ k : Nat, x = k := ⟨x.toNat, by omega⟩
        exact mem_nats.2 (List.mem_filter.2 ⟨List.mem_range.2 (by omega), decide_eq_true hx⟩)
      · intro hx
        obtain ⟨k, rfl, hk⟩ := of_nats hx
        exact of_decide_eq_true (List.mem_filter.1 hk).2
  have h2 := csK_filter w (fun i : Nat => decide ((i : Int) ∈ s)) a.length
  rw [← e] at h2
  exact h2
theorem Bl_ix (a : List (Int × Int)) (q : List Nat) : Ix a.length (nats (Bl a q)) := by
  rw [ix_pw]
  refine ⟨fun x hx => ?_, Bl_asc a q⟩
  obtain ⟨k, rfl, hk⟩ := of_nats hx
  have := (mem_Bl.1 hk).1
  omega
section
variable {n : Nat} {a : List (Int × Int)} {w : List Int} (hok : Okc n a w)
include hok
/-- What repairs costs at least as much. -/
theorem rp_ge {s : List Int} (h : rpB n a w s = true) : tot n a w ≤ csK w s s.length := by
  obtain ⟨⟨_, hix⟩, hc⟩ := rpB_iff.1 h
  obtain ⟨o, o1, o2, o3⟩ := topo hok.2.2.1 hc
  have h1 := (tot_min (n := n) (okc_w1 hok).ok).2.1 o o1 o2
  rw [cs_set hix]
  have h2 := sumK_sub (w := w) (P := bB a o) (Q := fun i => decide ((i : Int) ∈ s)) (k := a.length) (okc_w1 hok).ok (fun i hi hb => decide_eq_true (o3 i hi hb))
  have : bc a w o = sumK w (bB a o) a.length := rfl
  omega
theorem bl_rp {q : List Nat} (hq : Pre n q) (hl : q.length = n) : rpB n a w (nats (Bl a q)) = true :=
  rpB_iff.2 ⟨⟨hok, Bl_ix a q⟩, bl_repairs hok.2.2.1 hq hl fun i hi hb => mem_nats.2 (mem_Bl.2 ⟨hi, hb⟩)⟩
/-- No part of the cheapest set repairs. -/
theorem less_rp {q : List Nat} (hq : Opt n a w q) {i : Nat} (hi : i < (nats (Bl a q)).length) : rpB n a w ((nats (Bl a q)).eraseIdx i) = false := by
  refine Bool.eq_false_iff.2 fun h => ?_
  have h1 := rp_ge hok h
  have hix := Bl_ix a q
  have hixe := ix_erase hix i
  rw [cs_set hixe] at h1
  have h2 : tot n a w = sumK w (fun i => decide ((i : Int) ∈ nats (Bl a q))) a.length := by
    rw [← cs_set hix, cs_Bl, hq.2.2]
  have hw1 := okc_w1 hok
  obtain ⟨k, hke, hk⟩ := of_nats (mem_getD (d := 0) hi)
  have hka := (mem_Bl.1 hk).1
  have hnot : (k : Int) ∉ (nats (Bl a q)).eraseIdx i := fun hh => by
    rw [List.mem_eraseIdx_iff_getElem] at hh
    obtain ⟨j, hj, hne, e⟩ := hh
    have hnd := asc_nodup (Bl_asc a q)
    have e2 : (nats (Bl a q))[i] = (k : Int) := by rw [← hke]; simp [List.getD, hi]
    rcases Nat.lt_trichotomy i j with h3 | h3 | h3
    · exact (List.pairwise_iff_getElem.1 hnd) i j hi hj h3 (by rw [e2, e])
    · exact hne h3.symm
    · exact (List.pairwise_iff_getElem.1 hnd) j i hj hi h3 (by rw [e2, e])
  have := sumK_lt (w := w) (P := fun i_1 => decide ((i_1 : Int) ∈ (nats (Bl a q)).eraseIdx i)) (Q := fun i => decide ((i : Int) ∈ nats (Bl a q))) (k := a.length) (fun m hm => by have := hw1.2.2 m hm; omega)
    (fun m _ hm => decide_eq_true ((List.eraseIdx_sublist _ i).subset (of_decide_eq_true hm))) hka (decide_eq_true (mem_nats.2 hk)) (decide_eq_false hnot)
  omega
end
/-- A greater weight. -/
theorem leV_yes {n : Nat} {a : List (Int × Int)} {w : List Int} (h : chkE n a w = 0) : ∃ nl q, leV n a w = .tup [.sl nl (nats (Bl a q)).length (i64s (nats (Bl a q))) .unk, I (tot n a w), I 0] ∧ Opt n a w q := by
  obtain ⟨⟨q, q1, q2⟩, _⟩ := lsK_first (n := n) (okc_w1 (chk_ok.1 h))
  refine ⟨decide ((nats (Bl a q)).length = 0), q, ?_, q1⟩
  unfold leV
  rw [if_pos h, Int.toNat_natCast, q2]
  rfl
theorem coV_Bl {n : Nat} {a : List (Int × Int)} {w : List Int} (h : chkE n a w = 0) (q : List Nat) : coV n a w (nats (Bl a q)) = .tup [I (bc a w q), I 0] := by
  unfold coV
  rw [if_pos h, if_pos (Bl_ix a q), cs_Bl]
end Go.Proofs.Ytemfmnjhhdeedaa