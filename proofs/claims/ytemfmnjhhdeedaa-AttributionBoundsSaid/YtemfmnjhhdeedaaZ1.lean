/- Walks over pieces of evidence, shortest cycles, and the order of sets of indices. No condition. -/
import Derived.Test.YtemfmnjhhdeedaaD1
import Derived.Test.YtemfmnjhhdeedaaS1
namespace Go.Proofs.Ytemfmnjhhdeedaa
open Go Go.Abs
set_option linter.unusedSimpArgs false
set_option linter.unusedVariables false
set_option maxRecDepth 20000

/-- The least number of which something holds. -/
theorem least_of {p : Nat → Prop} (h : ∃ n, p n) : ∃ n, p n ∧ ∀ m, m < n → ¬ p m := by
  obtain ⟨n, hn⟩ := h
  induction n using Nat.strongRecOn with
  | _ n ih =>
    rcases Classical.em (∃ m, m < n ∧ p m) with ⟨m, h1, h2⟩ | hno
    · exact ih m h1 h2
    · exact ⟨n, hn, fun m hm hp => hno ⟨m, hm, hp⟩⟩
theorem nd_len : ∀ {A B : List Int}, A.Nodup → (∀ x ∈ A, x ∈ B) → A.length ≤ B.length := by
  intro A
  induction A with
  | nil => intro B _ _; simp
  | cons a A ih =>
    intro B hn hs
    obtain ⟨h1, h2⟩ := List.nodup_cons.1 hn
    have hm := hs a (by simp)
    have := ih (B := B.erase a) h2 (fun x hx => by
      have hne : x ≠ a := fun hh => by subst hh; exact h1 hx
      exact (List.mem_erase_of_ne hne).2 (hs x (by simp [hx])))
    rw [List.length_erase_of_mem hm] at this
    have hp := List.length_pos_of_mem hm
    simp only [List.length_cons]
    omega
/-- Lists without a repetition, of the same length: the one has all of the other. -/
theorem nd_all {A B : List Int} (hA : A.Nodup) (hs : ∀ x ∈ A, x ∈ B) (hl : B.length ≤ A.length) : ∀ x ∈ B, x ∈ A := fun x hx => by
  refine Classical.byContradiction fun hn => ?_
  have := nd_len (A := x :: A) (B := B) (List.nodup_cons.2 ⟨hn, hA⟩) (fun y hy => by
    rcases List.mem_cons.1 hy with rfl | hy
    · exact hx
    · exact hs y hy)
  simp only [List.length_cons] at this
  omega
theorem nats_len (l : List Nat) : (nats l).length = l.length := by simp [nats]
theorem mem_nats {l : List Nat} {k : Nat} : (k : Int) ∈ nats l ↔ k ∈ l := by
  unfold nats
  rw [List.mem_map]
  constructor
  · rintro ⟨j, h1, h2⟩
    have : j = k := by omega
    rw [← this]; exact h1
  · intro h; exact ⟨k, h, rfl⟩
theorem of_nats {l : List Nat} {x : Int} (h : x ∈ nats l) : ∃ k : Nat, x = k ∧ k ∈ l := by
  unfold nats at h
  obtain ⟨j, h1, rfl⟩ := List.mem_map.1 h
  exact ⟨j, rfl, h1⟩
theorem nats_nodup {l : List Nat} (h : l.Nodup) : (nats l).Nodup := by
  unfold nats List.Nodup
  rw [List.pairwise_map]
  exact h.imp fun hab hh => hab (by omega)
theorem nats_append (l m : List Nat) : nats (l ++ m) = nats l ++ nats m := by simp [nats]
theorem nd_lenN {A : List Nat} {n : Nat} (hA : A.Nodup) (hs : ∀ x ∈ A, x < n) : A.length ≤ n := by
  have := nd_len (nats_nodup hA) (B := nats (List.range n)) (fun x hx => by
    obtain ⟨k, rfl, hk⟩ := of_nats hx
    exact mem_nats.2 (List.mem_range.2 (hs k hk)))
  rwa [nats_len, nats_len, List.length_range] at this
theorem nodup_of_map {α β : Type} {f : α → β} {l : List α} (h : (l.map f).Nodup) : l.Nodup := by
  unfold List.Nodup at *
  rw [List.pairwise_map] at h
  exact h.imp fun hab hh => hab (by rw [hh])
theorem inj_of_map {α β : Type} {f : α → β} : ∀ {l : List α}, (l.map f).Nodup → ∀ {x y : α}, x ∈ l → y ∈ l → f x = f y → x = y := by
  intro l
  induction l with
  | nil => intro _ x y hx; cases hx
  | cons z l ih =>
    intro h x y hx hy e
    rw [List.map_cons] at h
    obtain ⟨h1, h2⟩ := List.nodup_cons.1 h
    rcases List.mem_cons.1 hx with h3 | h3 <;> rcases List.mem_cons.1 hy with h4 | h4
    · rw [h3, h4]
    · rw [h3] at e; exact absurd (List.mem_map.2 ⟨y, h4, e.symm⟩) h1
    · rw [h4] at e; exact absurd (List.mem_map.2 ⟨x, h3, e⟩) h1
    · exact ih h2 h3 h4 e

/-! The order of lists. -/
def cmpL : List Int → List Int → Int
  | [], [] => 0
  | [], _ :: _ => -1
  | _ :: _, [] => 1
  | x :: xs, y :: ys => if x < y then -1 else if y < x then 1 else cmpL xs ys
theorem cmpL_self (s : List Int) : cmpL s s = 0 := by
  induction s with
  | nil => rfl
  | cons x s ih => simp [cmpL, ih]
theorem cmpL_swap : ∀ (s t : List Int), cmpL t s = - cmpL s t := by
  intro s
  induction s with
  | nil => intro t; cases t <;> rfl
  | cons x s ih =>
    intro t
    cases t with
    | nil => rfl
    | cons y t =>
      simp only [cmpL, ih t]
      rcases Int.lt_trichotomy x y with h | h | h
      · rw [if_neg (by omega), if_pos h, if_pos h]; rfl
      · rw [if_neg (by omega), if_neg (by omega), if_neg (by omega), if_neg (by omega)]
      · rw [if_pos h, if_neg (by omega), if_pos h]
theorem cmpL_eq : ∀ {s t : List Int}, cmpL s t = 0 → s = t := by
  intro s
  induction s with
  | nil => intro t h; cases t with
    | nil => rfl
    | cons y t => simp [cmpL] at h
  | cons x s ih =>
    intro t h
    cases t with
    | nil => simp [cmpL] at h
    | cons y t =>
      simp only [cmpL] at h
      split at h
      · omega
      · split at h
        · omega
        · have : x = y := by omega
          rw [this, ih h]
theorem cmpL_trans : ∀ {s t u : List Int}, cmpL s t ≤ 0 → cmpL t u ≤ 0 → cmpL s u ≤ 0 := by
  intro s
  induction s with
  | nil => intro t u h k; cases u <;> simp [cmpL]
  | cons x s ih =>
    intro t u h k
    cases t with
    | nil => simp [cmpL] at h
    | cons y t =>
      cases u with
      | nil => simp [cmpL] at k
      | cons z u =>
        simp only [cmpL] at *
        split
        · omega
        · split
          · split at h
            · split at k
              · omega
              · split at k
                · omega
                · omega
            · split at h
              · omega
              · split at k
                · omega
                · split at k
                  · omega
                  · omega
          · split at h
            · split at k
              · omega
              · split at k
                · omega
                · omega
            · split at h
              · omega
              · split at k
                · omega
                · split at k
                  · omega
                  · exact ih h k
/-- The least difference decides. -/
theorem cmpL_diff : ∀ {s t : List Int}, s.Pairwise (· < ·) → t.Pairwise (· < ·) → s.length = t.length → ∀ {y : Int}, y ∈ s → y ∉ t → (∀ z, z < y → (z ∈ s ↔ z ∈ t)) → cmpL s t < 0 := by
  intro s
  induction s with
  | nil => intro t _ _ _ y h; cases h
  | cons a s ih =>
    intro t hs ht hl y hy hyt hz
    cases t with
    | nil => simp at hl
    | cons b t =>
      obtain ⟨s1, s2⟩ := List.pairwise_cons.1 hs
      obtain ⟨t1, t2⟩ := List.pairwise_cons.1 ht
      have hay : a ≤ y := by
        rcases List.mem_cons.1 hy with rfl | h
        · exact Int.le_refl _
        · exact Int.le_of_lt (s1 y h)
      simp only [cmpL]
      rcases Int.lt_trichotomy a b with h | h | h
      · rw [if_pos h]; omega
      · subst h
        rw [if_neg (by omega), if_neg (by omega)]
        have hne : y ≠ a := fun hh => hyt (by rw [hh]; exact List.mem_cons_self)
        have hys : y ∈ s := by
          rcases List.mem_cons.1 hy with h | h
          · exact absurd h hne
          · exact h
        refine ih s2 t2 (by simpa using hl) hys (fun hh => hyt (List.mem_cons_of_mem _ hh)) fun z hzy => ?_
        have h0 := hz z hzy
        constructor
        · intro h1
          have h2 := s1 z h1
          rcases List.mem_cons.1 (h0.1 (List.mem_cons_of_mem _ h1)) with h3 | h3
          · omega
          · exact h3
        · intro h1
          have h2 := t1 z h1
          rcases List.mem_cons.1 (h0.2 (List.mem_cons_of_mem _ h1)) with h3 | h3
          · omega
          · exact h3
      · exfalso
        have := (hz b (by omega)).2 List.mem_cons_self
        rcases List.mem_cons.1 this with h3 | h3
        · omega
        · have := s1 b h3; omega
/-- Ascending lists with the same elements. -/
theorem asc_ext : ∀ {s t : List Int}, s.Pairwise (· < ·) → t.Pairwise (· < ·) → (∀ x, x ∈ s ↔ x ∈ t) → s = t := by
  intro s
  induction s with
  | nil => intro t _ _ h; cases t with
    | nil => rfl
    | cons b t => exact absurd ((h b).2 List.mem_cons_self) (by simp)
  | cons a s ih =>
    intro t hs ht h
    cases t with
    | nil => exact absurd ((h a).1 List.mem_cons_self) (by simp)
    | cons b t =>
      obtain ⟨s1, s2⟩ := List.pairwise_cons.1 hs
      obtain ⟨t1, t2⟩ := List.pairwise_cons.1 ht
      have hab : a = b := by
        have h1 := (h a).1 List.mem_cons_self
        have h2 := (h b).2 List.mem_cons_self
        rcases List.mem_cons.1 h1 with h1 | h1
        · exact h1
        · rcases List.mem_cons.1 h2 with h2 | h2
          · exact h2.symm
          · have := s1 b h2; have := t1 a h1; omega
      subst hab
      rw [ih s2 t2 fun x => ?_]
      have h0 := h x
      constructor
      · intro h1
        have h2 := s1 x h1
        rcases List.mem_cons.1 (h0.1 (List.mem_cons_of_mem _ h1)) with h3 | h3
        · omega
        · exact h3
      · intro h1
        have h2 := t1 x h1
        rcases List.mem_cons.1 (h0.2 (List.mem_cons_of_mem _ h1)) with h3 | h3
        · omega
        · exact h3
theorem asc_nodup {s : List Int} (h : s.Pairwise (· < ·)) : s.Nodup := h.imp fun hab hh => by omega
theorem srt_ascN {l : List Int} (h : l.Nodup) : (srt l).Pairwise (· < ·) := by
  have h1 := srt_sorted l
  have h2 : (srt l).Pairwise (· ≠ ·) := (srt_perm l).nodup_iff.2 h
  exact (h1.and h2).imp fun ⟨x, y⟩ => by omega
theorem mem_srt {l : List Int} {x : Int} : x ∈ srt l ↔ x ∈ l := (srt_perm l).mem_iff

/-! Walks. -/
def fr (a : List (Int × Int)) (k : Nat) : Nat := (a.getD k (0, 0)).1.toNat
def tt (a : List (Int × Int)) (k : Nat) : Nat := (a.getD k (0, 0)).2.toNat
/-- A walk over pieces. -/
def IW (a : List (Int × Int)) : Nat → List Nat → Nat → Prop
  | u, [], v => u = v
  | u, k :: ks, v => k < a.length ∧ fr a k = u ∧ IW a (tt a k) ks v
theorem iw_append {a : List (Int × Int)} : ∀ {p : List Nat} {u x : Nat}, IW a u p x → ∀ {q : List Nat} {v : Nat}, IW a x q v → IW a u (p ++ q) v := by
  intro p
  induction p with
  | nil => intro u x h q v k; cases h; exact k
  | cons k p ih => intro u x h q v kk; exact ⟨h.1, h.2.1, ih h.2.2 kk⟩
theorem iw_split {a : List (Int × Int)} : ∀ {p : List Nat} {u : Nat} {q : List Nat} {v : Nat}, IW a u (p ++ q) v → ∃ x, IW a u p x ∧ IW a x q v := by
  intro p
  induction p with
  | nil => intro u q v h; exact ⟨u, rfl, h⟩
  | cons k p ih =>
    intro u q v h
    obtain ⟨x, h1, h2⟩ := ih h.2.2
    exact ⟨x, ⟨h.1, h.2.1, h1⟩, h2⟩
theorem iw_lt {a : List (Int × Int)} : ∀ {p : List Nat} {u v : Nat}, IW a u p v → ∀ k ∈ p, k < a.length := by
  intro p
  induction p with
  | nil => intro u v _ k hk; cases hk
  | cons j p ih =>
    intro u v h k hk
    rcases List.mem_cons.1 hk with rfl | hk
    · exact h.1
    · exact ih h.2.2 k hk
/-- The vertices of a walk. -/
theorem iw_verts {a : List (Int × Int)} : ∀ {p : List Nat} {u v : Nat}, IW a u p v → u :: p.map (tt a) = p.map (fr a) ++ [v] := by
  intro p
  induction p with
  | nil => intro u v h; cases h; rfl
  | cons k p ih =>
    intro u v h
    have := ih h.2.2
    rw [List.map_cons, List.map_cons, List.cons_append, ← this, h.2.1]
/-- From each vertex of a walk on. -/
theorem iw_from {a : List (Int × Int)} : ∀ {p : List Nat} {u v : Nat}, IW a u p v → ∀ {x : Nat}, x ∈ p.map (fr a) ++ [v] → ∃ l r, p = l ++ r ∧ IW a u l x ∧ IW a x r v := by
  intro p
  induction p with
  | nil =>
    intro u v h x hx
    cases h
    simp at hx
    subst hx
    exact ⟨[], [], rfl, rfl, rfl⟩
  | cons k p ih =>
    intro u v h x hx
    rw [List.map_cons, List.cons_append] at hx
    rcases List.mem_cons.1 hx with rfl | hx
    · refine ⟨[], k :: p, rfl, h.2.1.symm, ?_⟩
      exact ⟨h.1, rfl, h.2.2⟩
    · obtain ⟨l, r, h1, h2, h3⟩ := ih h.2.2 hx
      exact ⟨k :: l, r, by rw [h1]; rfl, ⟨h.1, h.2.1, h2⟩, h3⟩
/-- A walk that comes twice to a vertex can be made shorter. -/
theorem iw_cut {a : List (Int × Int)} : ∀ {p : List Nat} {u v : Nat}, IW a u p v → ¬ (p.map (fr a) ++ [v]).Nodup → ∃ q, q.length < p.length ∧ (∀ k ∈ q, k ∈ p) ∧ IW a u q v := by
  intro p
  induction p with
  | nil => intro u v h hn; exact absurd (by simp) hn
  | cons k p ih =>
    intro u v h hn
    rw [List.map_cons, List.cons_append, List.nodup_cons] at hn
    rcases Classical.em (fr a k ∈ p.map (fr a) ++ [v]) with hm | hm
    · obtain ⟨l, r, h1, h2, h3⟩ := iw_from h.2.2 hm
      refine ⟨r, ?_, ?_, ?_⟩
      · rw [h1]; simp; omega
      · intro j hj; rw [h1]; simp [hj]
      · rw [← h.2.1]; exact h3
    · obtain ⟨q, h1, h2, h3⟩ := ih h.2.2 (fun hh => hn ⟨hm, hh⟩)
      refine ⟨k :: q, by simp; omega, ?_, ⟨h.1, h.2.1, h3⟩⟩
      intro j hj
      rcases List.mem_cons.1 hj with rfl | hj
      · simp
      · simp [h2 j hj]
theorem iw_simple {a : List (Int × Int)} : ∀ (m : Nat) {p : List Nat} {u v : Nat}, p.length ≤ m → IW a u p v → ∃ q, q.length ≤ p.length ∧ (∀ k ∈ q, k ∈ p) ∧ IW a u q v ∧ (q.map (fr a) ++ [v]).Nodup := by
  intro m
  induction m with
  | zero =>
    intro p u v hm h
    have : p = [] := List.eq_nil_of_length_eq_zero (by omega)
    subst this
    exact ⟨[], Nat.le_refl _, fun _ h => h, h, by simp⟩
  | succ m ih =>
    intro p u v hm h
    rcases Classical.em (p.map (fr a) ++ [v]).Nodup with hn | hn
    · exact ⟨p, Nat.le_refl _, fun _ h => h, h, hn⟩
    · obtain ⟨q, h1, h2, h3⟩ := iw_cut h hn
      obtain ⟨r, k1, k2, k3, k4⟩ := ih (by omega) h3
      exact ⟨r, by omega, fun k hk => h2 k (k2 k hk), k3, k4⟩
/-- The number of steps of a shortest walk. -/
theorem iw_short {a : List (Int × Int)} {n : Nat} (ha : ∀ k, k < a.length → fr a k < n) {p : List Nat} {u v : Nat} (hv : v < n) (h : IW a u p v) : ∃ q, q.length < n ∧ q.length ≤ p.length ∧ (∀ k ∈ q, k ∈ p) ∧ IW a u q v := by
  obtain ⟨q, h1, h2, h3, h4⟩ := iw_simple _ (Nat.le_refl _) h
  refine ⟨q, ?_, h1, h2, h3⟩
  have := nd_lenN (n := n) h4 (fun x hx => by
    rw [List.mem_append, List.mem_singleton] at hx
    rcases hx with hx | rfl
    · obtain ⟨k, hk, rfl⟩ := List.mem_map.1 hx
      exact ha k (iw_lt h3 k hk)
    · exact hv)
  simp at this
  omega
/-- A closed walk, from each of its pieces on. -/
theorem iw_rot {a : List (Int × Int)} {p : List Nat} {u : Nat} (h : IW a u p u) {k : Nat} (hk : k ∈ p) : ∃ q, IW a (tt a k) q (fr a k) ∧ (k :: q).Perm p := by
  obtain ⟨l, r, rfl⟩ := List.append_of_mem hk
  obtain ⟨x, h1, h2⟩ := iw_split h
  obtain ⟨k1, k2, k3⟩ := h2
  subst k2
  refine ⟨r ++ l, iw_append k3 h1, ?_⟩
  have : (k :: (r ++ l)) = (k :: r) ++ l := rfl
  rw [this]
  exact List.perm_append_comm
/-- In a closed walk: the ends, as a list, are the beginnings. -/
theorem iw_perm {a : List (Int × Int)} {p : List Nat} {u : Nat} (h : IW a u p u) : (p.map (tt a)).Perm (p.map (fr a)) := by
  have h1 := iw_verts h
  have h2 : (u :: p.map (tt a)).Perm (u :: p.map (fr a)) := by rw [h1]; exact List.perm_append_comm
  exact (List.perm_cons u).1 h2
/-- A closed walk has one without repetitions in it. -/
theorem closed_simple {a : List (Int × Int)} {p : List Nat} {u : Nat} (h : IW a u p u) (hp : p ≠ []) : ∃ q w, q ≠ [] ∧ IW a w q w ∧ (∀ k ∈ q, k ∈ p) ∧ (q.map (fr a)).Nodup := by
  cases p with
  | nil => exact absurd rfl hp
  | cons k p =>
    obtain ⟨q, h1, h2, h3, h4⟩ := iw_simple _ (Nat.le_refl _) h.2.2
    refine ⟨k :: q, u, by simp, ⟨h.1, h.2.1, h3⟩, ?_, ?_⟩
    · intro j hj
      rcases List.mem_cons.1 hj with rfl | hj
      · simp
      · simp [h2 j hj]
    · rw [List.map_cons, h.2.1]
      have : (u :: q.map (fr a)).Perm (q.map (fr a) ++ [u]) := List.perm_append_comm (l₁ := [u])
      exact this.nodup_iff.2 h4
end Go.Proofs.Ytemfmnjhhdeedaa
namespace Go.Proofs.Ytemfmnjhhdeedaa
open Go Go.Abs
set_option linter.unusedSimpArgs false
set_option linter.unusedVariables false
set_option maxRecDepth 20000

section
variable {n : Nat} {a : List (Int × Int)} (he : Ev n a)
include he
theorem ev_k {k : Nat} (hk : k < a.length) : a.getD k (0, 0) = ((fr a k : Int), (tt a k : Int)) ∧ fr a k < n ∧ tt a k < n ∧ fr a k ≠ tt a k := by
  obtain ⟨h1, h2, h3⟩ := he.2.2.2 k hk
  unfold fr tt
  refine ⟨Prod.ext ?_ ?_, ?_, ?_, ?_⟩
  · simp only; omega
  · simp only; omega
  · omega
  · omega
  · omega
theorem sub_E {s : List Int} (hs : Ix a.length s) {i j : Nat} : arcE n (sub a s) i j ↔ ∃ k : Nat, (k : Int) ∈ s ∧ k < a.length ∧ fr a k = i ∧ tt a k = j := by
  rw [arcE_iff (sub_arc he hs)]
  constructor
  · rintro ⟨q, hq, e⟩
    rw [sub_len] at hq
    obtain ⟨i1, i2, i3⟩ := ix_at hs hq
    rw [sub_get hq, (ev_k he i3).1] at e
    have e1 := congrArg Prod.fst e
    have e2 := congrArg Prod.snd e
    simp only at e1 e2
    refine ⟨(s.getD q 0).toNat, ?_, i3, by omega, by omega⟩
    rw [show (((s.getD q 0).toNat : Nat) : Int) = s.getD q 0 by omega]
    exact mem_getD hq
  · rintro ⟨k, h1, h2, rfl, rfl⟩
    obtain ⟨q, hq, e⟩ := List.getElem_of_mem h1
    refine ⟨q, by rw [sub_len]; exact hq, ?_⟩
    rw [sub_get hq, show s.getD q 0 = (k : Int) by simp [List.getD, hq, e]]
    simpa using (ev_k he h2).1
theorem way_iw {s : List Int} (hs : Ix a.length s) {i j : Nat} (h : Way (arcE n (sub a s)) i j) : ∃ ks, ks ≠ [] ∧ IW a i ks j ∧ ∀ k ∈ ks, (k : Int) ∈ s := by
  induction h with
  | one e =>
    obtain ⟨k, h1, h2, h3, h4⟩ := (sub_E he hs).1 e
    exact ⟨[k], by simp, ⟨h2, h3, h4⟩, by simpa using h1⟩
  | step e _ ih =>
    obtain ⟨k, h1, h2, h3, h4⟩ := (sub_E he hs).1 e
    obtain ⟨ks, k1, k2, k3⟩ := ih
    refine ⟨k :: ks, by simp, ⟨h2, h3, by rw [h4]; exact k2⟩, ?_⟩
    intro x hx
    rcases List.mem_cons.1 hx with rfl | hx
    · exact h1
    · exact k3 x hx
theorem iw_way {s : List Int} (hs : Ix a.length s) : ∀ {ks : List Nat} {i j : Nat}, ks ≠ [] → IW a i ks j → (∀ k ∈ ks, (k : Int) ∈ s) → Way (arcE n (sub a s)) i j := by
  intro ks
  induction ks with
  | nil => intro i j h; exact absurd rfl h
  | cons k ks ih =>
    intro i j _ h hm
    have e : arcE n (sub a s) i (tt a k) := (sub_E he hs).2 ⟨k, hm k (by simp), h.1, h.2.1, rfl⟩
    cases ks with
    | nil => have := h.2.2; cases this; exact .one e
    | cons k2 ks => exact .step e (ih (by simp) h.2.2 (fun x hx => hm x (by simp [hx])))
theorem cy_iff {s : List Int} (hs : Ix a.length s) : cyB n (sub a s) = true ↔ ∃ ks u, ks ≠ [] ∧ IW a u ks u ∧ ∀ k ∈ ks, (k : Int) ∈ s := by
  rw [cyB_iff (sub_arc he hs)]
  constructor
  · rintro ⟨v, _, h⟩
    obtain ⟨ks, h1, h2, h3⟩ := way_iw he hs h
    exact ⟨ks, v, h1, h2, h3⟩
  · rintro ⟨ks, u, h1, h2, h3⟩
    refine ⟨u, ?_, iw_way he hs h1 h2 h3⟩
    cases ks with
    | nil => exact absurd rfl h1
    | cons k ks => rw [← h2.2.1]; exact (ev_k he h2.1).2.1
theorem cy_mono {s t : List Int} (hs : Ix a.length s) (ht : Ix a.length t) (hst : ∀ x ∈ s, x ∈ t) (h : cyB n (sub a s) = true) : cyB n (sub a t) = true := by
  obtain ⟨ks, u, h1, h2, h3⟩ := (cy_iff he hs).1 h
  exact (cy_iff he ht).2 ⟨ks, u, h1, h2, fun k hk => hst _ (h3 k hk)⟩
end
/-- The number of pieces of a shortest cycle. -/
def Gi (a : List (Int × Int)) (g : Nat) : Prop := 0 < g ∧ (∃ ks u, IW a u ks u ∧ ks.length = g) ∧ ∀ ks u, ks ≠ [] → IW a u ks u → g ≤ ks.length
theorem gi_of {a : List (Int × Int)} {ks : List Nat} {u : Nat} (h : IW a u ks u) (hk : ks ≠ []) : ∃ g, Gi a g := by
  obtain ⟨g, ⟨h1, ks, u, h2, h3⟩, h4⟩ := least_of (p := fun g => 0 < g ∧ ∃ ks u, IW a u ks u ∧ ks.length = g) ⟨ks.length, List.length_pos_iff.2 hk, ks, u, h, rfl⟩
  refine ⟨g, h1, ⟨ks, u, h2, h3⟩, fun ks' u' h5 h6 => ?_⟩
  rcases Nat.lt_or_ge ks'.length g with h7 | h7
  · exact absurd ⟨List.length_pos_iff.2 h5, ks', u', h6, rfl⟩ (h4 _ h7)
  · exact h7
theorem gi_nodup {a : List (Int × Int)} {g : Nat} (hg : Gi a g) {ks : List Nat} {u : Nat} (h : IW a u ks u) (hl : ks.length = g) : (ks.map (fr a)).Nodup := by
  cases ks with
  | nil => simp
  | cons k p =>
    rw [List.map_cons, h.2.1]
    have hp : (u :: p.map (fr a)).Perm (p.map (fr a) ++ [u]) := List.perm_append_comm (l₁ := [u])
    rw [hp.nodup_iff]
    refine Classical.byContradiction fun hn => ?_
    obtain ⟨q, h1, h2, h3⟩ := iw_cut h.2.2 hn
    have := hg.2.2 (k :: q) u (by simp) ⟨h.1, h.2.1, h3⟩
    simp only [List.length_cons] at this hl
    omega
/-- A contradictory set. -/
def Good (n : Nat) (a : List (Int × Int)) (s : List Int) : Prop := Ix a.length s ∧ cyB n (sub a s) = true
/-- The first of the smallest ones. -/
def Fst (n : Nat) (a : List (Int × Int)) (s : List Int) : Prop := Good n a s ∧ ∀ t, Good n a t → s.length < t.length ∨ (s.length = t.length ∧ cmpL s t ≤ 0)
theorem fst_eq {n : Nat} {a : List (Int × Int)} {s t : List Int} (hs : Fst n a s) (ht : Fst n a t) : s = t := by
  have h1 := hs.2 t ht.1
  have h2 := ht.2 s hs.1
  refine cmpL_eq ?_
  have := cmpL_swap s t
  omega
section
variable {n : Nat} {a : List (Int × Int)} (he : Ev n a)
include he
omit he in
theorem good_pw {s : List Int} (h : Good n a s) : s.Pairwise (· < ·) := (ix_pw.1 h.1).2
theorem good_gi {s : List Int} (h : Good n a s) : ∃ g, Gi a g := by
  obtain ⟨ks, u, h1, h2, h3⟩ := (cy_iff he h.1).1 h.2
  exact gi_of h2 h1
theorem good_ge {g : Nat} (hg : Gi a g) {s : List Int} (h : Good n a s) : g ≤ s.length ∧ (s.length = g → ∃ ks u, IW a u ks u ∧ ks.length = g ∧ s = srt (nats ks)) := by
  obtain ⟨ks, u, h1, h2, h3⟩ := (cy_iff he h.1).1 h.2
  obtain ⟨q, w, k1, k2, k3, k4⟩ := closed_simple h2 h1
  have hq := hg.2.2 q w k1 k2
  have hnd : (nats q).Nodup := nats_nodup (nodup_of_map k4)
  have hsub : ∀ x ∈ nats q, x ∈ s := fun x hx => by
    obtain ⟨k, rfl, hk⟩ := of_nats hx
    exact h3 k (k3 k hk)
  have hle := nd_len hnd hsub
  rw [nats_len] at hle
  refine ⟨by omega, fun hl => ⟨q, w, k2, by omega, ?_⟩⟩
  refine asc_ext (ix_pw.1 h.1).2 (srt_ascN hnd) fun x => ?_
  rw [mem_srt]
  exact ⟨nd_all hnd hsub (by rw [nats_len]; omega) x, hsub x⟩
omit he in
theorem ix_of {ks : List Nat} (hn : ks.Nodup) (hl : ∀ k ∈ ks, k < a.length) : Ix a.length (srt (nats ks)) := by
  rw [ix_pw]
  refine ⟨fun x hx => ?_, srt_ascN (nats_nodup hn)⟩
  rw [mem_srt] at hx
  obtain ⟨k, rfl, hk⟩ := of_nats hx
  have := hl k hk
  omega
theorem good_of {ks : List Nat} {u : Nat} (h : IW a u ks u) (hk : ks ≠ []) (hn : ks.Nodup) : Good n a (srt (nats ks)) := by
  have hix := ix_of hn (iw_lt h)
  exact ⟨hix, (cy_iff he hix).2 ⟨ks, u, hk, h, fun k hk => mem_srt.2 (mem_nats.2 hk)⟩⟩
omit he in
theorem srtn_len (ks : List Nat) : (srt (nats ks)).length = ks.length := by rw [srt_len, nats_len]
omit he in
/-- The first piece with the same ends. -/
theorem first_of (k : Nat) : ∃ j, (fr a j = fr a k ∧ tt a j = tt a k) ∧ ∀ m, m < j → ¬ (fr a m = fr a k ∧ tt a m = tt a k) := least_of (p := fun j => fr a j = fr a k ∧ tt a j = tt a k) ⟨k, rfl, rfl⟩
/-- A piece that is the first one of its kind. -/
def isF (a : List (Int × Int)) (k : Nat) : Prop := ∀ m, m < k → ¬ (fr a m = fr a k ∧ tt a m = tt a k)
omit he in
/-- Pieces can be changed for the first ones of their kind. -/
theorem firsts : ∀ {ks : List Nat} {u v : Nat}, IW a u ks v → ∃ f : Nat → Nat, (∀ k, fr a (f k) = fr a k ∧ tt a (f k) = tt a k ∧ isF a (f k) ∧ f k ≤ k) ∧ IW a u (ks.map f) v := by
  intro ks u v h
  obtain ⟨f, hf⟩ : ∃ f : Nat → Nat, ∀ k, fr a (f k) = fr a k ∧ tt a (f k) = tt a k ∧ isF a (f k) ∧ f k ≤ k := by
    refine ⟨fun k => Classical.choose (first_of (a := a) k), fun k => ?_⟩
    obtain ⟨⟨h1, h2⟩, h3⟩ := Classical.choose_spec (first_of (a := a) k)
    refine ⟨h1, h2, fun m hm => ?_, ?_⟩
    · rw [h1, h2]; exact h3 m hm
    · rcases Nat.lt_or_ge k (Classical.choose (first_of (a := a) k)) with h4 | h4
      · exact absurd ⟨rfl, rfl⟩ (h3 k h4)
      · exact h4
  refine ⟨f, hf, ?_⟩
  induction ks generalizing u with
  | nil => exact h
  | cons k ks ih =>
    obtain ⟨f1, f2, f3, f4⟩ := hf k
    refine ⟨by have := h.1; omega, by rw [f1]; exact h.2.1, ?_⟩
    rw [f2]
    exact ih h.2.2
/-- A first smallest set made of first pieces. -/
theorem good_first {g : Nat} (hg : Gi a g) {t : List Int} (h : Good n a t) : ∃ ks u, IW a u ks u ∧ ks.length = g ∧ (∀ k ∈ ks, isF a k) ∧ (g < t.length ∨ (g = t.length ∧ cmpL (srt (nats ks)) t ≤ 0)) := by
  obtain ⟨h1, h2⟩ := good_ge he hg h
  have key : ∀ ks u, IW a u ks u → ks.length = g → ∃ ks' , IW a u ks' u ∧ ks'.length = g ∧ (∀ k ∈ ks', isF a k) ∧ cmpL (srt (nats ks')) (srt (nats ks)) ≤ 0 := by
    intro ks u hw hl
    obtain ⟨f, hf, hw'⟩ := firsts hw
    refine ⟨ks.map f, hw', by simpa using hl, ?_, ?_⟩
    · intro k hk
      obtain ⟨j, _, rfl⟩ := List.mem_map.1 hk
      exact (hf j).2.2.1
    · have n1 := gi_nodup hg hw hl
      have n2 := gi_nodup hg hw' (by simpa using hl)
      have d1 := nodup_of_map n1
      have d2 := nodup_of_map n2
      rcases Classical.em (∃ y, (y ∈ ks.map f ∧ y ∉ ks) ∨ (y ∈ ks ∧ y ∉ ks.map f)) with hd | hd
      · obtain ⟨y, hy, hmin⟩ := least_of hd
        have hsame : ∀ z : Nat, z < y → (z ∈ ks.map f ↔ z ∈ ks) := fun z hz => by
          have := hmin z hz
          constructor
          · intro hh; exact Classical.byContradiction fun hn => this (.inl ⟨hh, hn⟩)
          · intro hh; exact Classical.byContradiction fun hn => this (.inr ⟨hh, hn⟩)
        rcases hy with ⟨y1, y2⟩ | ⟨y1, y2⟩
        · refine Int.le_of_lt (cmpL_diff (srt_ascN (nats_nodup d2)) (srt_ascN (nats_nodup d1)) (by rw [srtn_len, srtn_len]; simp) (y := (y : Int)) (mem_srt.2 (mem_nats.2 y1)) (fun hh => y2 (mem_nats.1 (mem_srt.1 hh))) fun z hz => ?_)
          rw [mem_srt, mem_srt]
          constructor
          · intro hh
            obtain ⟨k, rfl, hk⟩ := of_nats hh
            exact mem_nats.2 ((hsame k (by omega)).1 hk)
          · intro hh
            obtain ⟨k, rfl, hk⟩ := of_nats hh
            exact mem_nats.2 ((hsame k (by omega)).2 hk)
        · exfalso
          obtain ⟨f1, f2, f3, f4⟩ := hf y
          have hfm : f y ∈ ks.map f := List.mem_map.2 ⟨y, y1, rfl⟩
          rcases Nat.lt_or_ge (f y) y with h5 | h5
          · have h6 := (hsame _ h5).1 hfm
            have := inj_of_map n1 h6 y1 f1
            omega
          · have : f y = y := by omega
            rw [this] at hfm
            exact y2 hfm
      · have : srt (nats (ks.map f)) = srt (nats ks) := by
          refine asc_ext (srt_ascN (nats_nodup d2)) (srt_ascN (nats_nodup d1)) fun x => ?_
          rw [mem_srt, mem_srt]
          have hall : ∀ k, k ∈ ks.map f ↔ k ∈ ks := fun k => by
            constructor
            · intro hh; exact Classical.byContradiction fun hn => hd ⟨k, .inl ⟨hh, hn⟩⟩
            · intro hh; exact Classical.byContradiction fun hn => hd ⟨k, .inr ⟨hh, hn⟩⟩
          constructor
          · intro hh
            obtain ⟨k, rfl, hk⟩ := of_nats hh
            exact mem_nats.2 ((hall k).1 hk)
          · intro hh
            obtain ⟨k, rfl, hk⟩ := of_nats hh
            exact mem_nats.2 ((hall k).2 hk)
        rw [this, cmpL_self]
        exact Int.le_refl _
  rcases Nat.lt_or_ge g t.length with hlt | hge
  · obtain ⟨ks, u, hw, hl⟩ := hg.2.1
    obtain ⟨ks', k1, k2, k3, k4⟩ := key ks u hw hl
    exact ⟨ks', u, k1, k2, k3, .inl hlt⟩
  · obtain ⟨ks, u, hw, hl, rfl⟩ := h2 (by omega)
    obtain ⟨ks', k1, k2, k3, k4⟩ := key ks u hw hl
    exact ⟨ks', u, k1, k2, k3, .inr ⟨by omega, k4⟩⟩
end
end Go.Proofs.Ytemfmnjhhdeedaa
namespace Go.Proofs.Ytemfmnjhhdeedaa
open Go Go.Abs
set_option linter.unusedSimpArgs false
set_option linter.unusedVariables false
set_option maxRecDepth 20000

/-- Some walk of so many pieces, none of which begins below lo. -/
def WL (a : List (Int × Int)) (lo u L v : Nat) : Prop := ∃ ks, ks.length = L ∧ IW a u ks v ∧ ∀ k ∈ ks, lo ≤ fr a k
theorem wl_zero {a : List (Int × Int)} {lo u v : Nat} : WL a lo u 0 v ↔ u = v := by
  constructor
  · rintro ⟨ks, h1, h2, _⟩
    have : ks = [] := List.eq_nil_of_length_eq_zero h1
    subst this
    exact h2
  · intro h; exact ⟨[], rfl, h, by simp⟩
theorem wl_first {a : List (Int × Int)} {lo u v L : Nat} : WL a lo u (L + 1) v ↔ ∃ k, k < a.length ∧ fr a k = u ∧ lo ≤ u ∧ WL a lo (tt a k) L v := by
  constructor
  · rintro ⟨ks, h1, h2, h3⟩
    cases ks with
    | nil => simp at h1
    | cons k ks =>
      refine ⟨k, h2.1, h2.2.1, ?_, ks, by simpa using h1, h2.2.2, fun j hj => h3 j (by simp [hj])⟩
      rw [← h2.2.1]; exact h3 k (by simp)
  · rintro ⟨k, h1, rfl, h3, ks, h4, h5, h6⟩
    refine ⟨k :: ks, by simp [h4], ⟨h1, rfl, h5⟩, fun j hj => ?_⟩
    rcases List.mem_cons.1 hj with rfl | hj
    · exact h3
    · exact h6 j hj
theorem wl_last {a : List (Int × Int)} {lo u v L : Nat} : WL a lo u (L + 1) v ↔ ∃ k, k < a.length ∧ tt a k = v ∧ lo ≤ fr a k ∧ WL a lo u L (fr a k) := by
  constructor
  · rintro ⟨ks, h1, h2, h3⟩
    rcases List.eq_nil_or_concat ks with rfl | ⟨l, k, rfl⟩
    · simp at h1
    · rw [List.concat_eq_append] at *
      obtain ⟨x, h4, h5⟩ := iw_split h2
      obtain ⟨h6, h7, h8⟩ := h5
      subst h7
      refine ⟨k, h6, h8, h3 k (by simp), l, by simpa using h1, h4, fun j hj => h3 j (by simp [hj])⟩
  · rintro ⟨k, h1, h2, h3, ks, h4, h5, h6⟩
    refine ⟨ks ++ [k], by simp [h4], iw_append h5 ⟨h1, rfl, h2⟩, fun j hj => ?_⟩
    rw [List.mem_append, List.mem_singleton] at hj
    rcases hj with hj | rfl
    · exact h6 j hj
    · exact h3

/-- The least number of which something holds, if there is one. -/
noncomputable def lst (p : Nat → Prop) : Option Nat := by
  classical exact if h : ∃ n, p n then some (Classical.choose (least_of h)) else none
theorem lst_none {p : Nat → Prop} (h : ∀ n, ¬ p n) : lst p = none := by
  unfold lst
  rw [dif_neg]
  rintro ⟨n, hn⟩
  exact h n hn
theorem lst_some {p : Nat → Prop} {n : Nat} (h1 : p n) (h2 : ∀ m, m < n → ¬ p m) : lst p = some n := by
  unfold lst
  have h : ∃ n, p n := ⟨n, h1⟩
  rw [dif_pos h]
  obtain ⟨k1, k2⟩ := Classical.choose_spec (least_of h)
  congr 1
  rcases Nat.lt_trichotomy (Classical.choose (least_of h)) n with h3 | h3 | h3
  · exact absurd k1 (h2 _ h3)
  · exact h3
  · exact absurd h1 (k2 _ h3)
theorem lst_spec (p : Nat → Prop) : (lst p = none ∧ ∀ n, ¬ p n) ∨ ∃ n, lst p = some n ∧ p n ∧ ∀ m, m < n → ¬ p m := by
  rcases Classical.em (∃ n, p n) with h | h
  · obtain ⟨n, h1, h2⟩ := least_of h
    exact .inr ⟨n, lst_some h1 h2, h1, h2⟩
  · have h' : ∀ n, ¬ p n := fun n hn => h ⟨n, hn⟩
    exact .inl ⟨lst_none h', h'⟩
/-- The number of pieces of a shortest walk, or -1. -/
noncomputable def farZ (a : List (Int × Int)) (u v : Nat) : Int := match lst (fun L => WL a 0 u L v) with
  | some L => L
  | none => -1
theorem farZ_spec (a : List (Int × Int)) (u v : Nat) : (farZ a u v = -1 ∧ ∀ L, ¬ WL a 0 u L v) ∨ ∃ L : Nat, farZ a u v = L ∧ WL a 0 u L v ∧ ∀ m, m < L → ¬ WL a 0 u m v := by
  unfold farZ
  rcases lst_spec (fun L => WL a 0 u L v) with ⟨h1, h2⟩ | ⟨n, h1, h2, h3⟩
  · rw [h1]; exact .inl ⟨rfl, h2⟩
  · rw [h1]; exact .inr ⟨n, rfl, h2, h3⟩
/-- A vertex at a distance from u. -/
def lev (a : List (Int × Int)) (u x L : Nat) : Prop := WL a 0 u L x ∧ ∀ m, m < L → ¬ WL a 0 u m x
theorem lev_uni {a : List (Int × Int)} {u x L M : Nat} (h : lev a u x L) (k : lev a u x M) : L = M := by
  rcases Nat.lt_trichotomy L M with h1 | h1 | h1
  · exact absurd h.1 (k.2 _ h1)
  · exact h1
  · exact absurd k.1 (h.2 _ h1)
/-- The table of distances, after k rounds and i pieces. -/
def FarI (n : Nat) (a : List (Int × Int)) (u k i : Nat) (d : List Int) : Prop := d.length = n ∧ ∀ x, x < n →
  (d.getD x 0 = -1 ∧ (∀ L, L ≤ k → ¬ WL a 0 u L x) ∧ ∀ j, j < i → j < a.length → tt a j = x → ¬ lev a u (fr a j) k) ∨ ∃ L : Nat, L ≤ k + 1 ∧ d.getD x 0 = L ∧ lev a u x L
def FarT (n : Nat) (a : List (Int × Int)) (u k : Nat) (d : List Int) : Prop := d.length = n ∧ ∀ x, x < n →
  (d.getD x 0 = -1 ∧ ∀ L, L ≤ k → ¬ WL a 0 u L x) ∨ ∃ L : Nat, L ≤ k ∧ d.getD x 0 = L ∧ lev a u x L
theorem getD_setI {d : List Int} {x : Nat} (hx : x < d.length) (v : Int) (y : Nat) : (d.set x v).getD y 0 = if x = y then v else d.getD y 0 := by
  simp only [List.getD_eq_getElem?_getD, List.getElem?_set]
  by_cases h : x = y
  · subst h; simp [hx]
  · simp [h]
theorem farT_zero {n : Nat} {a : List (Int × Int)} {u : Nat} (hu : u < n) : FarT n a u 0 ((List.replicate n (-1)).set u 0) := by
  refine ⟨by simp, fun x hx => ?_⟩
  rw [getD_setI (by simpa using hu)]
  by_cases h : u = x
  · subst h
    rw [if_pos rfl]
    exact .inr ⟨0, Nat.le_refl _, rfl, wl_zero.2 rfl, fun m hm => absurd hm (Nat.not_lt_zero _)⟩
  · rw [if_neg h]
    refine .inl ⟨by simp [List.getD, hx], fun L hL => ?_⟩
    have : L = 0 := by omega
    subst this
    rw [wl_zero]; exact h
theorem farI_zero {n : Nat} {a : List (Int × Int)} {u k : Nat} {d : List Int} (h : FarT n a u k d) : FarI n a u k 0 d := by
  refine ⟨h.1, fun x hx => ?_⟩
  rcases h.2 x hx with ⟨h1, h2⟩ | ⟨L, h1, h2, h3⟩
  · exact .inl ⟨h1, h2, fun j hj => absurd hj (Nat.not_lt_zero _)⟩
  · exact .inr ⟨L, by omega, h2, h3⟩
theorem farI_end {n : Nat} {a : List (Int × Int)} {u k : Nat} {d : List Int} (h : FarI n a u k a.length d) : FarT n a u (k + 1) d := by
  refine ⟨h.1, fun x hx => ?_⟩
  rcases h.2 x hx with ⟨h1, h2, h3⟩ | ⟨L, h1, h2, h3⟩
  · refine .inl ⟨h1, fun L hL hw => ?_⟩
    rcases Nat.lt_or_ge L (k + 1) with h4 | h4
    · exact h2 L (by omega) hw
    · have : L = k + 1 := by omega
      subst this
      obtain ⟨j, j1, j2, j3, j4⟩ := wl_last.1 hw
      refine h3 j j1 j1 j2 ⟨j4, fun m hm hw2 => ?_⟩
      exact h2 (m + 1) (by omega) (wl_last.2 ⟨j, j1, j2, j3, hw2⟩)
  · exact .inr ⟨L, h1, h2, h3⟩
theorem farI_is {n : Nat} {a : List (Int × Int)} {u k i : Nat} {d : List Int} (h : FarI n a u k i d) {x : Nat} (hx : x < n) : d.getD x 0 = k ↔ lev a u x k := by
  rcases h.2 x hx with ⟨h1, h2, h3⟩ | ⟨L, h1, h2, h3⟩
  · constructor
    · intro hh; omega
    · intro hh; exact absurd hh.1 (h2 k (Nat.le_refl _))
  · constructor
    · intro hh
      have : L = k := by omega
      rw [← this]; exact h3
    · intro hh; rw [h2, lev_uni h3 hh]
theorem farI_no {n : Nat} {a : List (Int × Int)} {u k i : Nat} {d : List Int} (h : FarI n a u k i d) (hi : ¬ (d.getD (fr a i) 0 = k ∧ d.getD (tt a i) 0 < 0)) (hf : fr a i < n) : FarI n a u k (i + 1) d := by
  refine ⟨h.1, fun x hx => ?_⟩
  rcases h.2 x hx with ⟨h1, h2, h3⟩ | hB
  · refine .inl ⟨h1, h2, fun j hj hj2 hjx hlev => ?_⟩
    rcases lt_succ_cases hj with h4 | rfl
    · exact h3 j h4 hj2 hjx hlev
    · exact hi ⟨(farI_is h hf).2 hlev, by rw [hjx]; omega⟩
  · exact .inr hB
theorem farI_yes {n : Nat} {a : List (Int × Int)} {u k i : Nat} {d : List Int} (h : FarI n a u k i d) (h1 : d.getD (fr a i) 0 = k) (h2 : d.getD (tt a i) 0 < 0) (hf : fr a i < n) (ht : tt a i < n) (hi : i < a.length) : FarI n a u k (i + 1) (d.set (tt a i) ((k : Int) + 1)) := by
  refine ⟨by simpa using h.1, fun x hx => ?_⟩
  rw [getD_setI (by rw [h.1]; exact ht)]
  have hk := (farI_is h hf).1 h1
  by_cases hxt : tt a i = x
  · subst hxt
    rw [if_pos rfl]
    rcases h.2 _ hx with ⟨k1, k2, k3⟩ | ⟨L, k1, k2, k3⟩
    · refine .inr ⟨k + 1, Nat.le_refl _, by omega, wl_last.2 ⟨i, hi, rfl, Nat.zero_le _, hk.1⟩, fun m hm => k2 m (by omega)⟩
    · omega
  · rw [if_neg hxt]
    rcases h.2 x hx with ⟨k1, k2, k3⟩ | hB
    · refine .inl ⟨k1, k2, fun j hj hj2 hjx hlev => ?_⟩
      rcases lt_succ_cases hj with h4 | rfl
      · exact k3 j h4 hj2 hjx hlev
      · exact hxt hjx
    · exact .inr hB
theorem farT_end {n : Nat} {a : List (Int × Int)} (ha : ∀ k, k < a.length → fr a k < n) {u : Nat} {d : List Int} (h : FarT n a u n d) {x : Nat} (hx : x < n) : d.getD x 0 = farZ a u x := by
  rcases farZ_spec a u x with ⟨k1, k2⟩ | ⟨L, k1, k2, k3⟩ <;> rcases h.2 x hx with ⟨h1, h2⟩ | ⟨M, h1, h2, h3⟩
  · rw [k1, h1]
  · exact absurd h3.1 (k2 M)
  · exfalso
    obtain ⟨ks, e1, e2, e3⟩ := k2
    obtain ⟨q, q1, q2, q3, q4⟩ := iw_short ha hx e2
    exact h2 q.length (by omega) ⟨q, rfl, q4, fun _ _ => Nat.zero_le _⟩
  · rw [h2, k1, lev_uni h3 ⟨k2, k3⟩]

/-! The number of pieces of a shortest cycle. -/
noncomputable def giK (a : List (Int × Int)) : Nat → Int
  | 0 => 0
  | i + 1 => if 0 ≤ farZ a (tt a i) (fr a i) ∧ (giK a i = 0 ∨ farZ a (tt a i) (fr a i) + 1 < giK a i) then farZ a (tt a i) (fr a i) + 1 else giK a i
theorem giK_spec (a : List (Int × Int)) : ∀ i, i ≤ a.length → (giK a i = 0 ∧ ∀ k, k < i → ∀ L, ¬ WL a 0 (tt a k) L (fr a k)) ∨ ∃ g : Nat, giK a i = g ∧ 0 < g ∧ (∃ ks u, IW a u ks u ∧ ks.length = g) ∧ ∀ k, k < i → ∀ L, WL a 0 (tt a k) L (fr a k) → g ≤ L + 1 := by
  intro i
  induction i with
  | zero => intro _; exact .inl ⟨rfl, fun k hk => absurd hk (Nat.not_lt_zero _)⟩
  | succ i ih =>
    intro hi
    have ih := ih (by omega)
    unfold giK
    rcases farZ_spec a (tt a i) (fr a i) with ⟨k1, k2⟩ | ⟨L, k1, k2, k3⟩
    · rw [if_neg (fun hh => by omega)]
      rcases ih with ⟨h1, h2⟩ | ⟨g, h1, h2, h3, h4⟩
      · exact .inl ⟨h1, all_succ h2 k2⟩
      · exact .inr ⟨g, h1, h2, h3, all_succ h4 fun L hL => absurd hL (k2 L)⟩
    · have hcl : ∃ ks u, IW a u ks u ∧ ks.length = L + 1 := by
        obtain ⟨ks, e1, e2, e3⟩ := k2
        exact ⟨i :: ks, fr a i, ⟨hi, rfl, e2⟩, by simp [e1]⟩
      have hmin : ∀ M, WL a 0 (tt a i) M (fr a i) → L ≤ M := fun M hM => by
        rcases Nat.lt_or_ge M L with h | h
        · exact absurd hM (k3 M h)
        · exact h
      rcases ih with ⟨h1, h2⟩ | ⟨g, h1, h2, h3, h4⟩
      · rw [if_pos ⟨by omega, .inl h1⟩]
        refine .inr ⟨L + 1, by omega, by omega, hcl, all_succ (fun k hk M hM => absurd hM (h2 k hk M)) fun M hM => by have := hmin M hM; omega⟩
      · by_cases hlt : farZ a (tt a i) (fr a i) + 1 < giK a i
        · rw [if_pos ⟨by omega, .inr hlt⟩]
          refine .inr ⟨L + 1, by omega, by omega, hcl, all_succ (fun k hk M hM => ?_) fun M hM => by have := hmin M hM; omega⟩
          have := h4 k hk M hM
          omega
        · rw [if_neg (fun hh => by omega)]
          refine .inr ⟨g, h1, h2, h3, all_succ h4 fun M hM => ?_⟩
          have := hmin M hM
          omega
/-- The outcome: no cycle, or the length of a shortest one. -/
theorem giK_gi (a : List (Int × Int)) : (giK a a.length = 0 ∧ ∀ ks u, ks ≠ [] → ¬ IW a u ks u) ∨ ∃ g : Nat, giK a a.length = g ∧ Gi a g := by
  have key : ∀ ks u, ks ≠ [] → IW a u ks u → ∃ k L, k < a.length ∧ WL a 0 (tt a k) L (fr a k) ∧ ks.length = L + 1 := by
    intro ks u h1 h2
    cases ks with
    | nil => exact absurd rfl h1
    | cons k ks => exact ⟨k, ks.length, h2.1, ⟨ks, rfl, by rw [h2.2.1]; exact h2.2.2, fun _ _ => Nat.zero_le _⟩, rfl⟩
  rcases giK_spec a a.length (Nat.le_refl _) with ⟨h1, h2⟩ | ⟨g, h1, h2, h3, h4⟩
  · refine .inl ⟨h1, fun ks u k1 k2 => ?_⟩
    obtain ⟨k, L, e1, e2, _⟩ := key ks u k1 k2
    exact h2 k e1 L e2
  · refine .inr ⟨g, h1, h2, h3, fun ks u k1 k2 => ?_⟩
    obtain ⟨k, L, e1, e2, e3⟩ := key ks u k1 k2
    have := h4 k e1 L e2
    omega

/-! Ways home. -/
def lev1 (a : List (Int × Int)) (v x L : Nat) : Prop := 1 ≤ L ∧ WL a v x L v ∧ ∀ m, 1 ≤ m → m < L → ¬ WL a v x m v
theorem lev1_uni {a : List (Int × Int)} {v x L M : Nat} (h : lev1 a v x L) (k : lev1 a v x M) : L = M := by
  rcases Nat.lt_trichotomy L M with h1 | h1 | h1
  · exact absurd h.2.1 (k.2.2 _ h.1 h1)
  · exact h1
  · exact absurd k.2.1 (h.2.2 _ k.1 h1)
noncomputable def hmN (a : List (Int × Int)) (v x : Nat) : Nat := (lst (fun L => 1 ≤ L ∧ WL a v x L v)).getD 0
theorem hmN_spec (a : List (Int × Int)) (v x : Nat) : (hmN a v x = 0 ∧ ∀ L, 1 ≤ L → ¬ WL a v x L v) ∨ lev1 a v x (hmN a v x) := by
  unfold hmN
  rcases lst_spec (fun L => 1 ≤ L ∧ WL a v x L v) with ⟨h1, h2⟩ | ⟨n, h1, h2, h3⟩
  · rw [h1]; exact .inl ⟨rfl, fun L hL hw => h2 L ⟨hL, hw⟩⟩
  · rw [h1]; exact .inr ⟨h2.1, h2.2, fun m hm hlt hw => h3 m hlt ⟨hm, hw⟩⟩
theorem hmN_of {a : List (Int × Int)} {v x L : Nat} (h : lev1 a v x L) : hmN a v x = L := by
  rcases hmN_spec a v x with ⟨h1, h2⟩ | h1
  · exact absurd h.2.1 (h2 L h.1)
  · exact lev1_uni h1 h
theorem lev1_down {a : List (Int × Int)} {v x L : Nat} (h : lev1 a v x (L + 1)) (hL : 1 ≤ L) : ∃ j, j < a.length ∧ fr a j = x ∧ v ≤ x ∧ tt a j ≠ v ∧ lev1 a v (tt a j) L := by
  obtain ⟨j, h1, h2, h3, h4⟩ := wl_first.1 h.2.1
  refine ⟨j, h1, h2, h3, fun hh => ?_, hL, h4, fun m hm hlt hw => ?_⟩
  · exact h.2.2 1 (Nat.le_refl _) (by omega) (wl_first.2 ⟨j, h1, h2, h3, wl_zero.2 hh⟩)
  · exact h.2.2 (m + 1) (by omega) (by omega) (wl_first.2 ⟨j, h1, h2, h3, hw⟩)
theorem lev1_at {a : List (Int × Int)} {v : Nat} : ∀ (d : Nat) {x m : Nat}, 1 ≤ m → 1 ≤ d → lev1 a v x (m + d) → ∃ y, y ≠ v ∧ lev1 a v y m := by
  intro d
  induction d with
  | zero => intro x m _ h; omega
  | succ d ih =>
    intro x m hm _ h
    obtain ⟨j, _, _, _, h4, h5⟩ := lev1_down (L := m + d) h (by omega)
    rcases Nat.eq_zero_or_pos d with rfl | hd
    · exact ⟨_, h4, h5⟩
    · exact ih hm hd h5
/-- The vertices found last. -/
def Rch (a : List (Int × Int)) (v s : Nat) (R : List Int) : Prop := ∀ x : Int, x ∈ R ↔ ∃ y : Nat, x = y ∧ ((s = 1 ∧ y = v) ∨ (1 < s ∧ y ≠ v ∧ lev1 a v y (s - 1)))
def HmI (n : Nat) (a : List (Int × Int)) (v s i : Nat) (R : List Int) (d : List Int) (X : List Int) : Prop := d.length = n ∧ (∀ x, x < n →
  (d.getD x 0 = 0 ∧ (∀ L, 1 ≤ L → L < s → ¬ WL a v x L v) ∧ ∀ j, j < i → j < a.length → fr a j = x → v ≤ x → (tt a j : Int) ∉ R) ∨ ∃ L : Nat, L ≤ s ∧ d.getD x 0 = L ∧ lev1 a v x L) ∧
  ∀ x : Int, x ∈ X ↔ ∃ y : Nat, x = y ∧ y < n ∧ y ≠ v ∧ d.getD y 0 = s
def HmT (n : Nat) (a : List (Int × Int)) (v s : Nat) (d : List Int) : Prop := d.length = n ∧ ∀ x, x < n →
  (d.getD x 0 = 0 ∧ ∀ L, 1 ≤ L → L < s → ¬ WL a v x L v) ∨ ∃ L : Nat, L < s ∧ d.getD x 0 = L ∧ lev1 a v x L
theorem hmT_one (n : Nat) (a : List (Int × Int)) (v : Nat) : HmT n a v 1 (List.replicate n 0) :=
  ⟨by simp, fun x hx => .inl ⟨by simp [List.getD, hx], fun L h1 h2 => by omega⟩⟩
theorem rch_one (a : List (Int × Int)) (v : Nat) : Rch a v 1 [(v : Int)] := fun x => by
  rw [List.mem_singleton]
  constructor
  · rintro rfl; exact ⟨v, rfl, .inl ⟨rfl, rfl⟩⟩
  · rintro ⟨y, rfl, ⟨_, rfl⟩ | ⟨h, _⟩⟩
    · rfl
    · omega
theorem hmI_zero {n : Nat} {a : List (Int × Int)} {v s : Nat} (hs : 1 ≤ s) {R d : List Int} (h : HmT n a v s d) : HmI n a v s 0 R d [] := by
  refine ⟨h.1, fun x hx => ?_, fun x => ?_⟩
  · rcases h.2 x hx with ⟨h1, h2⟩ | ⟨L, h1, h2, h3⟩
    · exact .inl ⟨h1, h2, fun j hj => absurd hj (Nat.not_lt_zero _)⟩
    · exact .inr ⟨L, by omega, h2, h3⟩
  · constructor
    · intro hh; cases hh
    · rintro ⟨y, rfl, h1, h2, h3⟩
      exfalso
      rcases h.2 y h1 with ⟨k1, k2⟩ | ⟨L, k1, k2, k3⟩ <;> omega
theorem rch_wl {a : List (Int × Int)} {v s : Nat} {R : List Int} (hR : Rch a v s R) (hs : 1 ≤ s) {x : Nat} (hno : ∀ L, 1 ≤ L → L < s → ¬ WL a v x L v) : WL a v x s v ↔ ∃ j, j < a.length ∧ fr a j = x ∧ v ≤ x ∧ (tt a j : Int) ∈ R := by
  obtain ⟨m, rfl⟩ : ∃ m, s = m + 1 := ⟨s - 1, by omega⟩
  rw [wl_first]
  constructor
  · rintro ⟨j, h1, h2, h3, h4⟩
    refine ⟨j, h1, h2, h3, (hR _).2 ⟨_, rfl, ?_⟩⟩
    rcases Nat.eq_zero_or_pos m with rfl | hm
    · exact .inl ⟨rfl, wl_zero.1 h4⟩
    · refine .inr ⟨by omega, fun hh => ?_, hm, h4, fun q h5 h6 h7 => ?_⟩
      · exact hno 1 (Nat.le_refl _) (by omega) (wl_first.2 ⟨j, h1, h2, h3, wl_zero.2 hh⟩)
      · exact hno (q + 1) (by omega) (by omega) (wl_first.2 ⟨j, h1, h2, h3, h7⟩)
  · rintro ⟨j, h1, h2, h3, h4⟩
    refine ⟨j, h1, h2, h3, ?_⟩
    obtain ⟨y, e, h5⟩ := (hR _).1 h4
    have e : tt a j = y := by omega
    subst e
    rcases h5 with ⟨h6, h7⟩ | ⟨h6, h7, h8⟩
    · have : m = 0 := by omega
      subst this
      exact wl_zero.2 h7
    · exact h8.2.1
theorem hmI_end {n : Nat} {a : List (Int × Int)} {v s : Nat} (hs : 1 ≤ s) (ha : ∀ k, k < a.length → fr a k < n) (hv : v < n) {R d X : List Int} (hR : Rch a v s R) (h : HmI n a v s a.length R d X) : HmT n a v (s + 1) d ∧ Rch a v (s + 1) X := by
  have hT : HmT n a v (s + 1) d := by
    refine ⟨h.1, fun x hx => ?_⟩
    rcases h.2.1 x hx with ⟨h1, h2, h3⟩ | ⟨L, h1, h2, h3⟩
    · refine .inl ⟨h1, fun L k1 k2 hw => ?_⟩
      rcases Nat.lt_or_ge L s with h4 | h4
      · exact h2 L k1 h4 hw
      · have : L = s := by omega
        subst this
        obtain ⟨j, j1, j2, j3, j4⟩ := (rch_wl hR hs h2).1 hw
        exact h3 j j1 j1 j2 j3 j4
    · exact .inr ⟨L, by omega, h2, h3⟩
  refine ⟨hT, fun x => ?_⟩
  rw [h.2.2 x]
  constructor
  · rintro ⟨y, rfl, h1, h2, h3⟩
    refine ⟨y, rfl, .inr ⟨by omega, h2, ?_⟩⟩
    rcases hT.2 y h1 with ⟨k1, k2⟩ | ⟨L, k1, k2, k3⟩
    · omega
    · have : L = s := by omega
      rw [← this] ; exact k3
  · rintro ⟨y, rfl, ⟨h1, _⟩ | ⟨h1, h2, h3⟩⟩
    · omega
    · rw [Nat.add_sub_cancel] at h3
      have hy : y < n := by
        obtain ⟨m, rfl⟩ : ∃ m, s = m + 1 := ⟨s - 1, by omega⟩
        obtain ⟨j, j1, j2, _⟩ := wl_first.1 h3.2.1
        rw [← j2]; exact ha j j1
      refine ⟨y, rfl, hy, h2, ?_⟩
      rcases hT.2 y hy with ⟨k1, k2⟩ | ⟨L, k1, k2, k3⟩
      · exact absurd h3.2.1 (k2 s hs (by omega))
      · rw [k2, lev1_uni k3 h3]
theorem hmI_no {n : Nat} {a : List (Int × Int)} {v s i : Nat} {R d X : List Int} (h : HmI n a v s i R d X) (hi : ¬ (v ≤ fr a i ∧ d.getD (fr a i) 0 = 0 ∧ (tt a i : Int) ∈ R)) : HmI n a v s (i + 1) R d X := by
  refine ⟨h.1, fun x hx => ?_, h.2.2⟩
  rcases h.2.1 x hx with ⟨h1, h2, h3⟩ | hB
  · refine .inl ⟨h1, h2, fun j hj hj2 hjx hvx hm => ?_⟩
    rcases lt_succ_cases hj with h4 | rfl
    · exact h3 j h4 hj2 hjx hvx hm
    · exact hi ⟨by rw [hjx]; exact hvx, by rw [hjx]; exact h1, hm⟩
  · exact .inr hB
theorem hmI_yes {n : Nat} {a : List (Int × Int)} {v s i : Nat} (hs : 1 ≤ s) {R d X : List Int} (hR : Rch a v s R) (h : HmI n a v s i R d X) (h1 : v ≤ fr a i) (h2 : d.getD (fr a i) 0 = 0) (h3 : (tt a i : Int) ∈ R) (hf : fr a i < n) (hi : i < a.length) :
    HmI n a v s (i + 1) R (d.set (fr a i) (s : Int)) (if fr a i = v then X else X ++ [(fr a i : Int)]) := by
  have hset : ∀ x, (d.set (fr a i) (s : Int)).getD x 0 = if fr a i = x then (s : Int) else d.getD x 0 := fun x => getD_setI (by rw [h.1]; exact hf) _ x
  refine ⟨by simpa using h.1, fun x hx => ?_, fun x => ?_⟩
  · rw [hset]
    by_cases hxf : fr a i = x
    · subst hxf
      rw [if_pos rfl]
      rcases h.2.1 _ hx with ⟨k1, k2, k3⟩ | ⟨L, k1, k2, k3⟩
      · exact .inr ⟨s, Nat.le_refl _, rfl, hs, (rch_wl hR hs k2).2 ⟨i, hi, rfl, h1, h3⟩, k2⟩
      · have := k3.1; omega
    · rw [if_neg hxf]
      rcases h.2.1 x hx with ⟨k1, k2, k3⟩ | hB
      · refine .inl ⟨k1, k2, fun j hj hj2 hjx hvx hm => ?_⟩
        rcases lt_succ_cases hj with h4 | rfl
        · exact k3 j h4 hj2 hjx hvx hm
        · exact hxf hjx
      · exact .inr hB
  · have hX := h.2.2 x
    by_cases hfv : fr a i = v
    · rw [if_pos hfv, hX]
      constructor
      · rintro ⟨y, rfl, k1, k2, k3⟩
        exact ⟨y, rfl, k1, k2, by rw [hset, if_neg (fun hh => k2 (by omega))]; exact k3⟩
      · rintro ⟨y, rfl, k1, k2, k3⟩
        rw [hset, if_neg (fun hh => k2 (by omega))] at k3
        exact ⟨y, rfl, k1, k2, k3⟩
    · rw [if_neg hfv, List.mem_append, List.mem_singleton, hX]
      constructor
      · rintro (⟨y, rfl, k1, k2, k3⟩ | rfl)
        · refine ⟨y, rfl, k1, k2, ?_⟩
          rw [hset, if_neg (fun hh => by rw [hh] at h2; omega)]; exact k3
        · exact ⟨_, rfl, hf, hfv, by rw [hset, if_pos rfl]⟩
      · rintro ⟨y, rfl, k1, k2, k3⟩
        rw [hset] at k3
        by_cases hy : fr a i = y
        · exact .inr (by rw [hy])
        · rw [if_neg hy] at k3
          exact .inl ⟨y, rfl, k1, k2, k3⟩
/-- How many rounds there are. -/
theorem rch_le {n : Nat} {a : List (Int × Int)} {v s : Nat} (ha : ∀ k, k < a.length → fr a k < n) (hv : v < n) {R : List Int} (hR : Rch a v s R) (hne : R ≠ []) : s ≤ n := by
  obtain ⟨x, hx⟩ := List.exists_mem_of_ne_nil R hne
  obtain ⟨y, rfl, ⟨h1, h2⟩ | ⟨h1, h2, h3⟩⟩ := (hR x).1 hx
  · omega
  · obtain ⟨ks, e1, e2, e3⟩ := h3.2.1
    obtain ⟨q, q1, q2, q3, q4⟩ := iw_short ha hv e2
    have hq : 1 ≤ q.length := by
      cases q with
      | nil => exact absurd q4 h2
      | cons => simp
    rcases Nat.lt_or_ge q.length (s - 1) with h4 | h4
    · exact absurd ⟨q, rfl, q4, fun k hk => e3 k (q3 k hk)⟩ (h3.2.2 q.length hq h4)
    · omega
theorem hmT_end {n : Nat} {a : List (Int × Int)} {v s : Nat} (hs : 1 ≤ s) {R d : List Int} (hR : Rch a v s R) (h : HmT n a v s d) (hne : R = []) {x : Nat} (hx : x < n) : d.getD x 0 = hmN a v x := by
  rcases h.2 x hx with ⟨h1, h2⟩ | ⟨L, h1, h2, h3⟩
  · rcases hmN_spec a v x with ⟨k1, _⟩ | k1
    · rw [h1, k1]; rfl
    · exfalso
      subst hne
      have hs1 : s ≠ 1 := fun hh => by
        have := (hR (v : Int)).2 ⟨v, rfl, .inl ⟨hh, rfl⟩⟩
        cases this
      have hge : s ≤ hmN a v x := by
        rcases Nat.lt_or_ge (hmN a v x) s with h4 | h4
        · exact absurd k1.2.1 (h2 _ k1.1 h4)
        · exact h4
      obtain ⟨y, y1, y2⟩ := lev1_at (a := a) (v := v) (hmN a v x - (s - 1)) (x := x) (m := s - 1) (by omega) (by omega) (by rw [show s - 1 + (hmN a v x - (s - 1)) = hmN a v x by omega]; exact k1)
      have := (hR (y : Int)).2 ⟨y, rfl, .inr ⟨by omega, y1, y2⟩⟩
      cases this
  · rw [h2, hmN_of h3]
end Go.Proofs.Ytemfmnjhhdeedaa
namespace Go.Proofs.Ytemfmnjhhdeedaa
open Go Go.Abs
set_option linter.unusedSimpArgs false
set_option linter.unusedVariables false
set_option maxRecDepth 20000

/-- One set is at least as good as another one; nothing is the worst. -/
def le2 : Option (List Int) → Option (List Int) → Prop
  | _, none => True
  | none, some _ => False
  | some s, some t => s.length < t.length ∨ (s.length = t.length ∧ cmpL s t ≤ 0)
theorem le2_refl (x : Option (List Int)) : le2 x x := by
  cases x with
  | none => trivial
  | some s => exact .inr ⟨rfl, by rw [cmpL_self]; exact Int.le_refl _⟩
theorem le2_trans {x y z : Option (List Int)} (h : le2 x y) (k : le2 y z) : le2 x z := by
  cases z with
  | none => cases x <;> trivial
  | some u =>
    cases y with
    | none => exact k.elim
    | some t =>
      cases x with
      | none => exact h.elim
      | some s =>
        rcases h with h | ⟨h1, h2⟩ <;> rcases k with k | ⟨k1, k2⟩
        · exact .inl (by omega)
        · exact .inl (by omega)
        · exact .inl (by omega)
        · exact .inr ⟨by omega, cmpL_trans h2 k2⟩
/-- The better one of two. -/
def upd (b : Option (List Int)) (s : List Int) : Option (List Int) := match b with
  | none => some s
  | some t => if s.length < t.length ∨ (s.length = t.length ∧ cmpL s t < 0) then some s else some t
theorem upd_le (b : Option (List Int)) (s : List Int) : le2 (upd b s) b ∧ le2 (upd b s) (some s) := by
  cases b with
  | none => exact ⟨trivial, le2_refl _⟩
  | some t =>
    unfold upd
    by_cases h : s.length < t.length ∨ (s.length = t.length ∧ cmpL s t < 0)
    · simp only [if_pos h]
      refine ⟨?_, le2_refl _⟩
      rcases h with h | ⟨h1, h2⟩
      · exact .inl h
      · exact .inr ⟨h1, Int.le_of_lt h2⟩
    · simp only [if_neg h]
      refine ⟨le2_refl _, ?_⟩
      rcases Nat.lt_trichotomy t.length s.length with h1 | h1 | h1
      · exact .inl h1
      · refine .inr ⟨h1, ?_⟩
        have h2 : ¬ cmpL s t < 0 := fun hh => h (.inr ⟨h1.symm, hh⟩)
        have := cmpL_swap s t
        omega
      · exact absurd (.inl h1) h
theorem upd_or (b : Option (List Int)) (s : List Int) : upd b s = b ∨ upd b s = some s := by
  cases b with
  | none => exact .inr rfl
  | some t =>
    unfold upd
    by_cases h : s.length < t.length ∨ (s.length = t.length ∧ cmpL s t < 0)
    · right; show (if _ then _ else _) = _; rw [if_pos h]
    · left; show (if _ then _ else _) = _; rw [if_neg h]

/-- Whether the path goes on by piece k. -/
def tk (a : List (Int × Int)) (v : Nat) (H : Nat → Nat) (at_ left k : Nat) : Bool :=
  decide (fr a k = at_) && decide (v ≤ tt a k) && (List.range k).all (fun j => !(decide (fr a j = at_) && decide (tt a j = tt a k))) &&
    (if left = 1 then decide (tt a k = v) else !decide (tt a k = v) && decide (H (tt a k) = left - 1))
theorem tk_iff {a : List (Int × Int)} {v : Nat} {H : Nat → Nat} {at_ left k : Nat} : tk a v H at_ left k = true ↔ fr a k = at_ ∧ v ≤ tt a k ∧ (∀ j, j < k → ¬ (fr a j = at_ ∧ tt a j = tt a k)) ∧ (left = 1 → tt a k = v) ∧ (left ≠ 1 → tt a k ≠ v ∧ H (tt a k) = left - 1) := by
  unfold tk
  rw [Bool.and_eq_true, Bool.and_eq_true, Bool.and_eq_true, decide_eq_true_eq, decide_eq_true_eq, List.all_eq_true]
  constructor
  · rintro ⟨⟨⟨h1, h2⟩, h3⟩, h4⟩
    refine ⟨h1, h2, fun j hj ⟨k1, k2⟩ => ?_, fun hl => ?_, fun hl => ?_⟩
    · have := h3 j (List.mem_range.2 hj)
      rw [decide_eq_true k1, decide_eq_true k2] at this
      cases this
    · rw [if_pos hl] at h4; exact of_decide_eq_true h4
    · rw [if_neg hl, Bool.and_eq_true, Bool.not_eq_true', decide_eq_false_iff_not, decide_eq_true_eq] at h4; exact h4
  · rintro ⟨h1, h2, h3, h4, h5⟩
    refine ⟨⟨⟨h1, h2⟩, fun j hj => ?_⟩, ?_⟩
    · have := h3 j (List.mem_range.1 hj)
      by_cases k1 : fr a j = at_
      · have k2 : ¬ tt a j = tt a k := fun hh => this ⟨k1, hh⟩
        rw [decide_eq_false k2, Bool.and_false]; rfl
      · rw [decide_eq_false k1]; rfl
    · by_cases hl : left = 1
      · rw [if_pos hl]; exact decide_eq_true (h4 hl)
      · rw [if_neg hl, decide_eq_false (h5 hl).1, decide_eq_true (h5 hl).2]; rfl
/-- What is best after all ways on were tried. -/
def extF (a : List (Int × Int)) (v : Nat) (H : Nat → Nat) : Nat → Nat → List Int → Option (List Int) → Option (List Int)
  | 0, _, path, best => upd best (srt path)
  | left + 1, at_, path, best => (List.range a.length).foldl (fun b k => if tk a v H at_ (left + 1) k then extF a v H left (tt a k) (path ++ [(k : Int)]) b else b) best
/-- The same, after the first i pieces. -/
def extK (a : List (Int × Int)) (v : Nat) (H : Nat → Nat) (left at_ : Nat) (path : List Int) (best : Option (List Int)) (i : Nat) : Option (List Int) :=
  (List.range i).foldl (fun b k => if tk a v H at_ (left + 1) k then extF a v H left (tt a k) (path ++ [(k : Int)]) b else b) best
theorem extK_succ (a : List (Int × Int)) (v : Nat) (H : Nat → Nat) (left at_ : Nat) (path : List Int) (best : Option (List Int)) (i : Nat) :
    extK a v H left at_ path best (i + 1) = if tk a v H at_ (left + 1) i then extF a v H left (tt a i) (path ++ [(i : Int)]) (extK a v H left at_ path best i) else extK a v H left at_ path best i := by
  unfold extK
  rw [List.range_succ, List.foldl_append]
  rfl
theorem extF_le (a : List (Int × Int)) (v : Nat) (H : Nat → Nat) : ∀ (left at_ : Nat) (path : List Int) (best : Option (List Int)), le2 (extF a v H left at_ path best) best := by
  intro left
  induction left with
  | zero => intro at_ path best; exact (upd_le _ _).1
  | succ left ih =>
    intro at_ path best
    show le2 (extK a v H left at_ path best a.length) best
    have : ∀ i, le2 (extK a v H left at_ path best i) best := by
      intro i
      induction i with
      | zero => exact le2_refl _
      | succ i ihi =>
        rw [extK_succ]
        split
        · exact le2_trans (ih _ _ _) ihi
        · exact ihi
    exact this _
theorem extK_le (a : List (Int × Int)) (v : Nat) (H : Nat → Nat) (left at_ : Nat) (path : List Int) (best : Option (List Int)) (i d : Nat) : le2 (extK a v H left at_ path best (i + d)) (extK a v H left at_ path best i) := by
  induction d with
  | zero => exact le2_refl _
  | succ d ih =>
    rw [show i + (d + 1) = i + d + 1 by omega, extK_succ]
    split
    · exact le2_trans (extF_le _ _ _ _ _ _ _) ih
    · exact ih
/-- A way that is tried. -/
def Chn (a : List (Int × Int)) (v : Nat) (H : Nat → Nat) : Nat → Nat → List Nat → Prop
  | 0, _, ks => ks = []
  | _ + 1, _, [] => False
  | left + 1, at_, k :: ks => k < a.length ∧ tk a v H at_ (left + 1) k = true ∧ Chn a v H left (tt a k) ks
theorem extF_opt {a : List (Int × Int)} {v : Nat} {H : Nat → Nat} : ∀ {left at_ : Nat} {ks : List Nat}, Chn a v H left at_ ks → ∀ (path : List Int) (best : Option (List Int)), le2 (extF a v H left at_ path best) (some (srt (path ++ nats ks))) := by
  intro left
  induction left with
  | zero => intro at_ ks h path best; cases h; simp only [nats, List.map_nil, List.append_nil]; exact (upd_le _ _).2
  | succ left ih =>
    intro at_ ks h path best
    cases ks with
    | nil => exact h.elim
    | cons k ks =>
      obtain ⟨h1, h2, h3⟩ := h
      show le2 (extK a v H left at_ path best a.length) _
      have h4 := extK_le a v H left at_ path best (k + 1) (a.length - (k + 1))
      rw [show k + 1 + (a.length - (k + 1)) = a.length by omega] at h4
      refine le2_trans h4 ?_
      rw [extK_succ, if_pos h2]
      have := ih h3 (path ++ [(k : Int)]) (extK a v H left at_ path best k)
      rw [List.append_assoc] at this
      exact this
/-- All that is found is contradictory. -/
def AllGood (n : Nat) (a : List (Int × Int)) (b : Option (List Int)) : Prop := ∀ s, b = some s → Good n a s
theorem extF_good {n : Nat} {a : List (Int × Int)} (he : Ev n a) {v K : Nat} {H : Nat → Nat} (hK : 0 < K) : ∀ (left at_ : Nat) (ks : List Nat) (best : Option (List Int)), AllGood n a best → IW a v ks at_ → ks.Nodup → (∀ k ∈ ks, left < H (fr a k)) → ks.length + left = K → (0 < left → H at_ = left) → (left = 0 → at_ = v) →
    AllGood n a (extF a v H left at_ (nats ks) best) := by
  intro left
  induction left with
  | zero =>
    intro at_ ks best hb hw hn h1 h2 h3 h4
    have := h4 rfl
    subst this
    rcases upd_or best (srt (nats ks)) with e | e
    · show AllGood n a (upd best (srt (nats ks))); rw [e]; exact hb
    · show AllGood n a (upd best (srt (nats ks)))
      rw [e]
      intro s hs
      cases hs
      exact good_of he hw (fun hh => by subst hh; simp at h2; omega) hn
  | succ left ih =>
    intro at_ ks best hb hw hn h1 h2 h3 h4
    show AllGood n a (extK a v H left at_ (nats ks) best a.length)
    have : ∀ i, i ≤ a.length → AllGood n a (extK a v H left at_ (nats ks) best i) := by
      intro i
      induction i with
      | zero => intro _; exact hb
      | succ i ihi =>
        intro hi
        have ihi := ihi (by omega)
        rw [extK_succ]
        split
        · rename_i ht
          obtain ⟨t1, t2, t3, t4, t5⟩ := tk_iff.1 ht
          have e : nats ks ++ [(i : Int)] = nats (ks ++ [i]) := by rw [nats_append]; rfl
          rw [e]
          refine ih (tt a i) (ks ++ [i]) _ ihi (iw_append hw ⟨by omega, t1, rfl⟩) ?_ ?_ (by simp; omega) ?_ ?_
          · rw [List.nodup_append]
            refine ⟨hn, by simp, fun x hx y hy => ?_⟩
            rw [List.mem_singleton] at hy
            subst hy
            intro hxy
            subst hxy
            have := h1 x hx
            rw [t1, h3 (by omega)] at this
            omega
          · intro k hk
            rw [List.mem_append, List.mem_singleton] at hk
            rcases hk with hk | rfl
            · have := h1 k hk; omega
            · rw [t1, h3 (by omega)]; omega
          · intro hl
            have := (t5 (by omega)).2
            omega
          · intro hl
            exact t4 (by omega)
        · exact ihi
    exact this _ (Nat.le_refl _)

/-- What is best after the vertices below i. -/
noncomputable def smF (a : List (Int × Int)) : Nat → Option (List Int)
  | 0 => none
  | i + 1 => if 0 < hmN a i i ∧ (∀ s, smF a i = some s → hmN a i i ≤ s.length) then extF a i (hmN a i) (hmN a i i) i [] (smF a i) else smF a i
section
variable {n : Nat} {a : List (Int × Int)} (he : Ev n a)
include he
theorem smF_good : ∀ i, i ≤ n → AllGood n a (smF a i) := by
  intro i
  induction i with
  | zero => intro _ s hs; cases hs
  | succ i ih =>
    intro hi
    have ih := ih (by omega)
    unfold smF
    split
    · rename_i hc
      have := extF_good he hc.1 (H := hmN a i) (v := i) (hmN a i i) i [] (smF a i) ih rfl (by simp) (by simp) (by simp) (fun _ => rfl) (fun _ => rfl)
      exact this
    · exact ih
omit he in
theorem smF_le (i d : Nat) : le2 (smF a (i + d)) (smF a i) := by
  induction d with
  | zero => exact le2_refl _
  | succ d ih =>
    rw [show i + (d + 1) = i + d + 1 by omega, smF]
    split
    · exact le2_trans (extF_le _ _ _ _ _ _ _) ih
    · exact ih
omit he in
/-- The rest of a shortest cycle of first pieces is tried. -/
theorem chn_rest {g v : Nat} (hg : Gi a g) : ∀ (q p : List Nat) (x : Nat), IW a v p x → IW a x q v → (p ++ q).length = g → (∀ k ∈ p ++ q, v ≤ fr a k ∧ isF a k) → p ++ q ≠ [] → Chn a v (hmN a v) q.length x q := by
  intro q
  induction q with
  | nil => intro p x _ _ _ _ _; rfl
  | cons k q ih =>
    intro p x h1 h2 h3 h4 h5
    obtain ⟨k1, k2, k3⟩ := h2
    have hk := h4 k (by simp)
    have hnext : p ++ k :: q = (p ++ [k]) ++ q := by simp
    refine ⟨k1, tk_iff.2 ⟨k2, ?_, ?_, ?_, ?_⟩, ih (p ++ [k]) (tt a k) (iw_append h1 ⟨k1, k2, rfl⟩) k3 (by rw [← hnext]; exact h3) (fun j hj => h4 j (by rw [hnext]; exact hj)) (by simp)⟩
    · cases q with
      | nil => have := k3; rw [show tt a k = v from this]; exact Nat.le_refl _
      | cons j q =>
        have := (h4 j (by simp)).1
        rw [k3.2.1] at this
        exact this
    · intro j hj ⟨e1, e2⟩
      exact hk.2 j hj ⟨by rw [e1, k2], e2⟩
    · intro hl
      have : q = [] := List.eq_nil_of_length_eq_zero (by omega)
      subst this
      exact k3
    · intro hl
      have hq : q ≠ [] := fun hh => hl (by rw [hh]; rfl)
      have hqp := List.length_pos_iff.2 hq
      have hcl : ∀ M, WL a v (tt a k) M v → q.length ≤ M := fun M hM => by
        obtain ⟨ks, e1, e2, _⟩ := hM
        have := hg.2.2 (p ++ k :: ks) v (by simp) (iw_append h1 ⟨k1, k2, e2⟩)
        simp only [List.length_append, List.length_cons] at this h3
        omega
      refine ⟨fun hh => ?_, ?_⟩
      · have := hcl 0 (wl_zero.2 hh)
        omega
      · rw [Nat.add_sub_cancel]
        refine hmN_of ⟨hqp, ⟨q, rfl, k3, fun j hj => (h4 j (by simp [hj])).1⟩, fun m hm hlt hw => ?_⟩
        have := hcl m hw
        omega
theorem smF_opt {t : List Int} (h : Good n a t) : le2 (smF a n) (some t) := by
  obtain ⟨g, hg⟩ := good_gi he h
  obtain ⟨ks, u, h1, h2, h3, h4⟩ := good_first he hg h
  have hg0 := hg.1
  have hne : ks ≠ [] := fun hh => by subst hh; simp at h2; omega
  -- the least vertex
  obtain ⟨v, ⟨k, hk, hkv⟩, hmin⟩ := least_of (p := fun v => ∃ k ∈ ks, fr a k = v) (by
    cases ks with
    | nil => exact absurd rfl hne
    | cons k ks => exact ⟨_, k, by simp, rfl⟩)
  have hmin : ∀ j ∈ ks, v ≤ fr a j := fun j hj => by
    rcases Nat.lt_or_ge (fr a j) v with h5 | h5
    · exact absurd ⟨j, hj, rfl⟩ (hmin _ h5)
    · exact h5
  obtain ⟨q, r1, r2⟩ := iw_rot h1 hk
  have hw : IW a v (k :: q) v := ⟨iw_lt h1 k hk, hkv, by rw [← hkv]; exact r1⟩
  have hlen : (k :: q).length = g := by rw [r2.length_eq]; exact h2
  have hall : ∀ j ∈ k :: q, v ≤ fr a j ∧ isF a j := fun j hj => by
    have := r2.mem_iff.1 hj
    exact ⟨hmin j this, h3 j this⟩
  have hvn : v < n := by rw [← hkv]; exact (ev_k he (iw_lt h1 k hk)).2.1
  have hH : hmN a v v = g := hmN_of ⟨hg0, ⟨k :: q, hlen, hw, fun j hj => (hall j hj).1⟩, fun m hm hlt hw2 => by
    obtain ⟨ks2, e1, e2, _⟩ := hw2
    have := hg.2.2 ks2 v (fun hh => by subst hh; simp at e1; omega) e2
    omega⟩
  have hchn := chn_rest hg (k :: q) [] v rfl hw (by simpa using hlen) (by simpa using hall) (by simp)
  have hsm : smF a (v + 1) = extF a v (hmN a v) (hmN a v v) v [] (smF a v) := by
    show (if _ then _ else _) = _
    rw [if_pos]
    refine ⟨by omega, fun s hs => ?_⟩
    rw [hH]
    exact (good_ge he hg (smF_good he v (by omega) s hs)).1
  have h5 := extF_opt hchn [] (smF a v)
  rw [hlen, ← hH, ← hsm, List.nil_append] at h5
  have h6 := smF_le (a := a) (v + 1) (n - (v + 1))
  rw [show v + 1 + (n - (v + 1)) = n by omega] at h6
  refine le2_trans h6 (le2_trans h5 ?_)
  have e : srt (nats (k :: q)) = srt (nats ks) := by
    have hn1 := nodup_of_map (gi_nodup hg hw hlen)
    have hn2 := nodup_of_map (gi_nodup hg h1 h2)
    refine asc_ext (srt_ascN (nats_nodup hn1)) (srt_ascN (nats_nodup hn2)) fun x => ?_
    rw [mem_srt, mem_srt]
    constructor
    · intro hx
      obtain ⟨j, rfl, hj⟩ := of_nats hx
      exact mem_nats.2 (r2.mem_iff.1 hj)
    · intro hx
      obtain ⟨j, rfl, hj⟩ := of_nats hx
      exact mem_nats.2 (r2.mem_iff.2 hj)
  rw [e]
  have hl := srtn_len ks
  rcases h4 with h4 | ⟨h4, h7⟩
  · exact .inl (by omega)
  · exact .inr ⟨by omega, h7⟩
/-- The search finds the first of the smallest ones. -/
theorem smF_fst {s : List Int} (h : smF a n = some s) : Fst n a s := by
  refine ⟨smF_good he n (Nat.le_refl _) s h, fun t ht => ?_⟩
  have := smF_opt he ht
  rw [h] at this
  exact this
theorem smF_none (h : smF a n = none) : ∀ t, ¬ Good n a t := fun t ht => by
  have := smF_opt he ht
  rw [h] at this
  exact this
end

/-! The reference's search. -/
def fitB (a : List (Int × Int)) (s : List Int) (i : Nat) : Bool := s.all fun k => !decide (fr a k.toNat = fr a i) && !decide (tt a k.toNat = tt a i)
noncomputable def growF (n : Nat) (a : List (Int × Int)) (size : Nat) : Nat → List Int → Nat → Option (List Int)
  | 0, s, _ => if cyB n (sub a s) then some s else none
  | r + 1, s, low => (List.range a.length).findSome? fun i => if low ≤ i ∧ i + (r + 1) ≤ a.length ∧ fitB a s i = true ∧ farZ a (tt a i) (fr a i) = (size : Int) - 1 then growF n a size r (s ++ [(i : Int)]) (i + 1) else none
/-- What may be added to a set. -/
def Cand (n : Nat) (a : List (Int × Int)) (size : Nat) (s : List Int) (low r : Nat) (e : List Nat) : Prop :=
  e.length = r ∧ e.Pairwise (· < ·) ∧ (∀ i ∈ e, low ≤ i ∧ i < a.length ∧ farZ a (tt a i) (fr a i) = (size : Int) - 1 ∧ fitB a s i = true) ∧ e.Pairwise (fun j i => fr a j ≠ fr a i ∧ tt a j ≠ tt a i) ∧ cyB n (sub a (s ++ nats e)) = true
theorem cmpL_pre (s t u : List Int) : cmpL (s ++ t) (s ++ u) = cmpL t u := by
  induction s with
  | nil => rfl
  | cons x s ih => simp only [List.cons_append, cmpL, Int.lt_irrefl, if_false]; exact ih
theorem asc_room {a : List (Int × Int)} : ∀ {e : List Nat} {i : Nat}, (i :: e).Pairwise (· < ·) → (∀ j ∈ i :: e, j < a.length) → i + (e.length + 1) ≤ a.length := by
  intro e
  induction e with
  | nil => intro i _ h; have := h i (by simp); simp; omega
  | cons j e ih =>
    intro i h1 h2
    obtain ⟨h3, h4⟩ := List.pairwise_cons.1 h1
    have := ih h4 (fun k hk => h2 k (List.mem_cons_of_mem _ hk))
    have := h3 j (by simp)
    simp only [List.length_cons] at *
    omega
theorem growF_spec {n : Nat} {a : List (Int × Int)} {size : Nat} : ∀ (r : Nat) (s : List Int) (low : Nat),
    (growF n a size r s low = none ∧ ∀ e, ¬ Cand n a size s low r e) ∨ ∃ e, growF n a size r s low = some (s ++ nats e) ∧ Cand n a size s low r e ∧ ∀ e', Cand n a size s low r e' → cmpL (nats e) (nats e') ≤ 0 := by
  intro r
  induction r with
  | zero =>
    intro s low
    unfold growF
    by_cases h : cyB n (sub a s) = true
    · rw [if_pos h]
      refine .inr ⟨[], by simp [nats], ⟨rfl, .nil, by simp, .nil, by simpa [nats] using h⟩, fun e' he' => ?_⟩
      have : e' = [] := List.eq_nil_of_length_eq_zero he'.1
      subst this
      rw [cmpL_self]; exact Int.le_refl _
    · rw [if_neg h]
      refine .inl ⟨rfl, fun e he => ?_⟩
      have : e = [] := List.eq_nil_of_length_eq_zero he.1
      subst this
      have := he.2.2.2.2
      simp only [nats, List.map_nil, List.append_nil] at this
      exact h this
  | succ r ih =>
    intro s low
    have hcand : ∀ i e, Cand n a size s low (r + 1) (i :: e) ↔ (low ≤ i ∧ i < a.length ∧ fitB a s i = true ∧ farZ a (tt a i) (fr a i) = (size : Int) - 1) ∧ Cand n a size (s ++ [(i : Int)]) (i + 1) r e := by
      intro i e
      have hfit : ∀ j, fitB a (s ++ [(i : Int)]) j = true ↔ fitB a s j = true ∧ fr a i ≠ fr a j ∧ tt a i ≠ tt a j := by
        intro j
        unfold fitB
        simp
      have e0 : s ++ nats (i :: e) = s ++ [(i : Int)] ++ nats e := by simp [nats]
      unfold Cand
      rw [e0]
      constructor
      · rintro ⟨h1, h2, h3, h4, h5⟩
        obtain ⟨p1, p2⟩ := List.pairwise_cons.1 h2
        obtain ⟨q1, q2⟩ := List.pairwise_cons.1 h4
        obtain ⟨i1, i2, i3, i4⟩ := h3 i (by simp)
        refine ⟨⟨i1, i2, i4, i3⟩, by simpa using h1, p2, fun j hj => ?_, q2, h5⟩
        obtain ⟨j1, j2, j3, j4⟩ := h3 j (by simp [hj])
        exact ⟨p1 j hj, j2, j3, (hfit j).2 ⟨j4, q1 j hj⟩⟩
      · rintro ⟨⟨i1, i2, i4, i3⟩, h1, h2, h3, h4, h5⟩
        refine ⟨by simpa using h1, List.pairwise_cons.2 ⟨fun j hj => by have := (h3 j hj).1; omega, h2⟩, fun j hj => ?_, List.pairwise_cons.2 ⟨fun j hj => ((hfit j).1 (h3 j hj).2.2.2).2, h4⟩, h5⟩
        rcases List.mem_cons.1 hj with rfl | hj
        · exact ⟨i1, i2, i3, i4⟩
        · obtain ⟨j1, j2, j3, j4⟩ := h3 j hj
          exact ⟨by omega, j2, j3, ((hfit j).1 j4).1⟩
    -- the pieces below i have been tried
    have key : ∀ m, m ≤ a.length →
        ((List.range m).findSome? (fun i => if low ≤ i ∧ i + (r + 1) ≤ a.length ∧ fitB a s i = true ∧ farZ a (tt a i) (fr a i) = (size : Int) - 1 then growF n a size r (s ++ [(i : Int)]) (i + 1) else none) = none ∧ ∀ i, i < m → ∀ e, ¬ Cand n a size s low (r + 1) (i :: e)) ∨
        ∃ e, (List.range m).findSome? (fun i => if low ≤ i ∧ i + (r + 1) ≤ a.length ∧ fitB a s i = true ∧ farZ a (tt a i) (fr a i) = (size : Int) - 1 then growF n a size r (s ++ [(i : Int)]) (i + 1) else none) = some (s ++ nats e) ∧ Cand n a size s low (r + 1) e ∧ ∀ e', Cand n a size s low (r + 1) e' → cmpL (nats e) (nats e') ≤ 0 := by
      intro m
      induction m with
      | zero => intro _; exact .inl ⟨rfl, fun i hi => absurd hi (Nat.not_lt_zero _)⟩
      | succ m ihm =>
        intro hm
        rw [List.range_succ, List.findSome?_append]
        rcases ihm (by omega) with ⟨h1, h2⟩ | ⟨e, h1, h2, h3⟩
        · rw [h1, Option.none_or]
          simp only [List.findSome?_cons, List.findSome?_nil]
          by_cases hc : low ≤ m ∧ m + (r + 1) ≤ a.length ∧ fitB a s m = true ∧ farZ a (tt a m) (fr a m) = (size : Int) - 1
          · rw [if_pos hc]
            rcases ih (s ++ [(m : Int)]) (m + 1) with ⟨g1, g2⟩ | ⟨e, g1, g2, g3⟩
            · rw [g1]
              exact .inl ⟨rfl, all_succ h2 fun e he => g2 e ((hcand m e).1 he).2⟩
            · rw [g1]
              refine .inr ⟨m :: e, by simp [nats], (hcand m e).2 ⟨⟨hc.1, by omega, hc.2.2.1, hc.2.2.2⟩, g2⟩, fun e' he' => ?_⟩
              cases e' with
              | nil => have := he'.1; simp at this
              | cons i e' =>
                rcases Nat.lt_trichotomy i m with h4 | h4 | h4
                · exact absurd he' (h2 i h4 e')
                · subst h4
                  have := g3 e' ((hcand i e').1 he').2
                  simp only [nats, List.map_cons, cmpL, Int.lt_irrefl, if_false]
                  exact this
                · simp only [nats, List.map_cons, cmpL]
                  rw [if_pos (by omega)]
                  omega
          · rw [if_neg hc]
            refine .inl ⟨rfl, all_succ h2 fun e he => hc ?_⟩
            obtain ⟨⟨i1, i2, i3, i4⟩, _⟩ := (hcand m e).1 he
            refine ⟨i1, ?_, i3, i4⟩
            have := asc_room he.2.1 (fun j hj => (he.2.2.1 j hj).2.1)
            have := he.1
            simp only [List.length_cons] at this
            omega
        · rw [h1]
          exact .inr ⟨e, rfl, h2, h3⟩
    show (List.findSome? _ (List.range a.length) = none ∧ _) ∨ ∃ e, List.findSome? _ (List.range a.length) = _ ∧ _
    rcases key a.length (Nat.le_refl _) with ⟨h1, h2⟩ | h
    · refine .inl ⟨h1, fun e he => ?_⟩
      cases e with
      | nil => have := he.1; simp at this
      | cons i e => exact h2 i ((he.2.2.1 i (by simp)).2.1) e he
    · exact .inr h
section
variable {n : Nat} {a : List (Int × Int)} (he : Ev n a)
include he
/-- A smallest contradictory set is among what the reference tries. -/
theorem cand_of {g : Nat} (hg : Gi a g) {t : List Int} (h : Good n a t) (hl : t.length = g) : ∃ e, t = nats e ∧ Cand n a g [] 0 g e := by
  obtain ⟨ks, u, h1, h2, h3⟩ := (good_ge he hg h).2 hl
  have hfn := gi_nodup hg h1 h2
  have htn : (ks.map (tt a)).Nodup := (iw_perm h1).nodup_iff.2 hfn
  have hmem : ∀ {x : Int}, x ∈ t ↔ x ∈ nats ks := fun {x} => by rw [h3, mem_srt]
  have e0 : t = nats (t.map Int.toNat) := by
    unfold nats
    rw [List.map_map]
    refine (List.map_id t).symm.trans (List.map_congr_left fun x hx => ?_)
    have := (ix_pw.1 h.1).1 x hx
    simp only [Function.comp, id]
    omega
  have hme : ∀ i, i ∈ t.map Int.toNat ↔ i ∈ ks := fun i => by
    rw [← mem_nats (l := t.map Int.toNat), ← e0, hmem, mem_nats]
  have hpw : (t.map Int.toNat).Pairwise (· < ·) := by
    rw [List.pairwise_map]
    have h4 := (ix_pw.1 h.1).2
    refine List.Pairwise.imp_of_mem (fun {x y} hx hy hxy => ?_) h4
    have := (ix_pw.1 h.1).1 x hx
    have := (ix_pw.1 h.1).1 y hy
    omega
  refine ⟨t.map Int.toNat, e0, by simpa using hl, hpw, fun i hi => ?_, ?_, ?_⟩
  · have hik := (hme i).1 hi
    refine ⟨Nat.zero_le _, iw_lt h1 i hik, ?_, by simp [fitB]⟩
    obtain ⟨q, r1, r2⟩ := iw_rot h1 hik
    have hql : q.length + 1 = g := by
      have := r2.length_eq
      simp only [List.length_cons] at this
      omega
    have hmin : ∀ m, m < q.length → ¬ WL a 0 (tt a i) m (fr a i) := fun m hm hw => by
      obtain ⟨ks2, e1, e2, _⟩ := hw
      have := hg.2.2 (i :: ks2) (fr a i) (by simp) ⟨iw_lt h1 i hik, rfl, e2⟩
      simp only [List.length_cons] at this
      omega
    rcases farZ_spec a (tt a i) (fr a i) with ⟨_, k2⟩ | ⟨L, k1, k2, k3⟩
    · exact absurd ⟨q, rfl, r1, fun _ _ => Nat.zero_le _⟩ (k2 q.length)
    · have hL : L = q.length := by
        rcases Nat.lt_trichotomy L q.length with h5 | h5 | h5
        · exact absurd k2 (hmin L h5)
        · exact h5
        · exact absurd ⟨q, rfl, r1, fun _ _ => Nat.zero_le _⟩ (k3 q.length h5)
      rw [k1]; omega
  · refine List.Pairwise.imp_of_mem (fun {x y} hx hy hxy => ?_) hpw
    have hx := (hme x).1 hx
    have hy := (hme y).1 hy
    refine ⟨fun hh => ?_, fun hh => ?_⟩
    · have := inj_of_map hfn hx hy hh; omega
    · have := inj_of_map htn hx hy hh; omega
  · rw [List.nil_append, ← e0]; exact h.2
theorem growF_fst {g : Nat} (hg : Gi a g) : ∃ s, growF n a g g [] 0 = some s ∧ Fst n a s := by
  rcases growF_spec (n := n) (a := a) (size := g) g [] 0 with ⟨h1, h2⟩ | ⟨e, h1, h2, h3⟩
  · exfalso
    obtain ⟨ks, u, k1, k2⟩ := hg.2.1
    have hne : ks ≠ [] := fun hh => by subst hh; simp at k2; have := hg.1; omega
    have hgood := good_of he k1 hne (nodup_of_map (gi_nodup hg k1 k2))
    obtain ⟨e, _, h4⟩ := cand_of he hg hgood (by rw [srtn_len]; exact k2)
    exact h2 e h4
  · rw [List.nil_append] at h1
    refine ⟨_, h1, ⟨?_, ?_⟩, fun t ht => ?_⟩
    · rw [ix_pw]
      refine ⟨fun x hx => ?_, ?_⟩
      · obtain ⟨k, rfl, hk⟩ := of_nats hx
        have := (h2.2.2.1 k hk).2.1
        omega
      · unfold nats
        rw [List.pairwise_map]
        exact h2.2.1.imp fun hab => by omega
    · have := h2.2.2.2.2
      rwa [List.nil_append] at this
    · rw [nats_len, h2.1]
      have h4 := good_ge he hg ht
      rcases Nat.lt_or_ge g t.length with h5 | h5
      · exact .inl h5
      · have h6 : t.length = g := by omega
        obtain ⟨e', rfl, h7⟩ := cand_of he hg ht h6
        exact .inr ⟨h6.symm, h3 e' h7⟩
/-- What Smallest gives. -/
theorem small_eq : (smF a n = none ∧ giK a a.length = 0) ∨ ∃ g s, giK a a.length = (g : Nat) ∧ 0 < g ∧ growF n a g g [] 0 = some s ∧ smF a n = some s ∧ Fst n a s := by
  rcases giK_gi a with ⟨h1, h2⟩ | ⟨g, h1, h2⟩
  · refine .inl ⟨?_, h1⟩
    cases hs : smF a n with
    | none => rfl
    | some s =>
      obtain ⟨ks, u, k1, k2, _⟩ := (cy_iff he (smF_good he n (Nat.le_refl _) s hs).1).1 (smF_good he n (Nat.le_refl _) s hs).2
      exact absurd k2 (h2 ks u k1)
  · obtain ⟨s, h3, h4⟩ := growF_fst he h2
    refine .inr ⟨g, s, h1, h2.1, h3, ?_, h4⟩
    cases hs : smF a n with
    | none => exact absurd h4.1 (smF_none he hs s)
    | some t => rw [fst_eq (smF_fst he hs) h4]
end
end Go.Proofs.Ytemfmnjhhdeedaa
namespace Go.Proofs.Ytemfmnjhhdeedaa
open Go Go.Abs
set_option linter.unusedSimpArgs false
set_option linter.unusedVariables false
set_option maxRecDepth 20000

/-! Sums of weights. -/
def sumK (w : List Int) (P : Nat → Bool) : Nat → Int
  | 0 => 0
  | k + 1 => sumK w P k + if P k then w.getD k 0 else 0
theorem sumK_congr {w : List Int} {P Q : Nat → Bool} : ∀ {k : Nat}, (∀ i, i < k → P i = Q i) → sumK w P k = sumK w Q k := by
  intro k
  induction k with
  | zero => intro _; rfl
  | succ k ih =>
    intro h
    show sumK w P k + _ = sumK w Q k + _
    rw [ih (fun i hi => h i (by omega)), h k (by omega)]
theorem sumK_or {w : List Int} {P Q : Nat → Bool} : ∀ {k : Nat}, (∀ i, i < k → ¬ (P i = true ∧ Q i = true)) → sumK w (fun i => P i || Q i) k = sumK w P k + sumK w Q k := by
  intro k
  induction k with
  | zero => intro _; rfl
  | succ k ih =>
    intro h
    have h1 := ih (fun i hi => h i (by omega))
    have h2 := h k (by omega)
    simp only [sumK, h1]
    generalize w.getD k 0 = x
    by_cases hp : P k = true <;> by_cases hq : Q k = true
    · exact absurd ⟨hp, hq⟩ h2
    · simp [hp, hq]; omega
    · simp [hp, hq]; omega
    · simp [hp, hq]
theorem sumK_nonneg {w : List Int} {P : Nat → Bool} : ∀ {k : Nat}, (∀ i, i < k → 0 ≤ w.getD i 0) → 0 ≤ sumK w P k := by
  intro k
  induction k with
  | zero => intro _; exact Int.le_refl _
  | succ k ih =>
    intro h
    have h1 := ih (fun i hi => h i (by omega))
    have h2 := h k (by omega)
    simp only [sumK]
    split <;> omega
theorem sumK_le {w : List Int} {c : Int} {P : Nat → Bool} : ∀ {k : Nat}, (∀ i, i < k → w.getD i 0 ≤ c) → 0 ≤ c → sumK w P k ≤ k * c := by
  intro k
  induction k with
  | zero => intro _ _; simp [sumK]
  | succ k ih =>
    intro h hc
    have h1 := ih (fun i hi => h i (by omega)) hc
    have h2 := h k (by omega)
    have e : ((k + 1 : Nat) : Int) * c = k * c + c := by rw [Int.natCast_add, Int.add_mul]; simp
    simp only [sumK]
    split <;> omega
theorem sumK_sub {w : List Int} {P Q : Nat → Bool} : ∀ {k : Nat}, (∀ i, i < k → 0 ≤ w.getD i 0) → (∀ i, i < k → P i = true → Q i = true) → sumK w P k ≤ sumK w Q k := by
  intro k
  induction k with
  | zero => intro _ _; exact Int.le_refl _
  | succ k ih =>
    intro h h2
    have h1 := ih (fun i hi => h i (by omega)) (fun i hi => h2 i (by omega))
    have h3 := h k (by omega)
    have h4 := h2 k (by omega)
    simp only [sumK]
    generalize w.getD k 0 = x at h3 ⊢
    by_cases hp : P k = true
    · rw [if_pos hp, if_pos (h4 hp)]; omega
    · rw [if_neg hp]; split <;> omega
/-- A part that is not all weighs less. -/
theorem sumK_lt {w : List Int} {P Q : Nat → Bool} : ∀ {k : Nat}, (∀ i, i < k → 0 < w.getD i 0) → (∀ i, i < k → P i = true → Q i = true) → ∀ {j : Nat}, j < k → Q j = true → P j = false → sumK w P k < sumK w Q k := by
  intro k
  induction k with
  | zero => intro _ _ j hj; omega
  | succ k ih =>
    intro h h2 j hj hq hp
    simp only [sumK]
    rcases Nat.lt_or_ge j k with h3 | h3
    · have h1 := ih (fun i hi => h i (by omega)) (fun i hi => h2 i (by omega)) h3 hq hp
      have h5 := h k (by omega)
      have h4 := h2 k (by omega)
      generalize w.getD k 0 = x at h5 ⊢
      by_cases hp : P k = true
      · rw [if_pos hp, if_pos (h4 hp)]; omega
      · rw [if_neg hp]; split <;> omega
    · have : j = k := by omega
      subst this
      have h1 := sumK_sub (w := w) (P := P) (Q := Q) (k := j) (fun i hi => Int.le_of_lt (h i (by omega))) (fun i hi => h2 i (by omega))
      have h5 := h j (by omega)
      rw [hp, hq, if_neg (by decide), if_pos rfl]
      omega

/-! Sets of vertices as bits. -/
def mk (p : List Nat) : Nat := p.foldl (fun s v => s ||| 2 ^ v) 0
theorem mk_snoc (p : List Nat) (v : Nat) : mk (p ++ [v]) = mk p ||| 2 ^ v := by simp [mk, List.foldl_append]
theorem bit_or {s v x : Nat} : (s ||| 2 ^ v).testBit x = (s.testBit x || decide (v = x)) := by
  rw [Nat.testBit_or, Nat.testBit_two_pow]
theorem mk_bit (x : Nat) : ∀ p : List Nat, (mk p).testBit x = decide (x ∈ p) := by
  intro p
  generalize hq : p.reverse = q
  have : p = q.reverse := by rw [← hq, List.reverse_reverse]
  subst this
  clear hq
  induction q with
  | nil => simp [mk]
  | cons v q ih =>
    rw [List.reverse_cons, mk_snoc, bit_or, ih]
    by_cases h1 : x ∈ q.reverse <;> by_cases h2 : v = x
    · simp [h1, h2]
    · simp [h1, h2]
    · subst h2; simp
    · have : ¬ x = v := fun hh => h2 hh.symm
      simp [h1, h2, this]

/-! Backward pieces. -/
def bwP (a : List (Int × Int)) (v s i : Nat) : Bool := decide (fr a i = v) && s.testBit (tt a i)
def bw (a : List (Int × Int)) (w : List Int) (v s : Nat) : Int := sumK w (bwP a v s) a.length
/-- Whether piece i leads backward in an order. -/
def bB (a : List (Int × Int)) (p : List Nat) (i : Nat) : Bool := (List.range p.length).any fun k => decide (p.getD k 0 = fr a i) && decide (tt a i ∈ p.take k)
theorem bB_snoc (a : List (Int × Int)) (p : List Nat) (v i : Nat) : bB a (p ++ [v]) i = (bB a p i || (decide (v = fr a i) && decide (tt a i ∈ p))) := by
  unfold bB
  rw [List.length_append, List.length_singleton, List.range_succ, List.any_append]
  have h1 : ∀ k, k < p.length → (p ++ [v]).getD k 0 = p.getD k 0 ∧ (p ++ [v]).take k = p.take k := fun k hk => by
    refine ⟨by simp [List.getD, List.getElem?_append, hk], by rw [List.take_append_of_le_length (by omega)]⟩
  congr 1
  · rw [Bool.eq_iff_iff, List.any_eq_true, List.any_eq_true]
    constructor
    · rintro ⟨k, hk, h⟩
      have := h1 k (List.mem_range.1 hk)
      rw [this.1, this.2] at h
      exact ⟨k, hk, h⟩
    · rintro ⟨k, hk, h⟩
      have := h1 k (List.mem_range.1 hk)
      refine ⟨k, hk, ?_⟩
      rw [this.1, this.2]
      exact h
  · have e1 : (p ++ [v]).getD p.length 0 = v := by simp [List.getD]
    have e2 : (p ++ [v]).take p.length = p := by simp
    simp [e1, e2]
theorem bB_mem {a : List (Int × Int)} {p : List Nat} {i : Nat} (h : bB a p i = true) : fr a i ∈ p ∧ tt a i ∈ p := by
  unfold bB at h
  obtain ⟨k, h1, h2⟩ := List.any_eq_true.1 h
  rw [Bool.and_eq_true, decide_eq_true_eq, decide_eq_true_eq] at h2
  refine ⟨?_, List.mem_of_mem_take h2.2⟩
  rw [← h2.1]
  exact mem_getD (List.mem_range.1 h1)
/-- The weight of the backward pieces. -/
def bc (a : List (Int × Int)) (w : List Int) (p : List Nat) : Int := sumK w (bB a p) a.length
theorem bc_snoc {a : List (Int × Int)} {w : List Int} {p : List Nat} {v : Nat} (hv : v ∉ p) : bc a w (p ++ [v]) = bc a w p + bw a w v (mk p) := by
  unfold bc bw
  rw [sumK_congr (Q := fun i => bB a p i || bwP a v (mk p) i) (fun i _ => ?_), sumK_or]
  · intro i _ ⟨h1, h2⟩
    unfold bwP at h2
    rw [Bool.and_eq_true, decide_eq_true_eq] at h2
    exact hv (h2.1 ▸ (bB_mem h1).1)
  · rw [bB_snoc]
    unfold bwP
    rw [mk_bit]
    by_cases h : v = fr a i
    · subst h; simp
    · have : ¬ fr a i = v := fun hh => h hh.symm
      simp [h, this]
theorem bc_nil (a : List (Int × Int)) (w : List Int) : bc a w [] = 0 := by
  have : ∀ k, sumK w (bB a []) k = 0 := by
    intro k
    induction k with
    | zero => rfl
    | succ k ih => simp [sumK, ih, bB]
  exact this _

/-! All orders that begin with some vertices. -/
def enum (n : Nat) : Nat → List Nat → List (List Nat)
  | 0, p => [p]
  | r + 1, p => (List.range n).flatMap fun v => if v ∈ p then [] else enum n r (p ++ [v])
/-- An order of vertices, as far as it goes. -/
def Pre (n : Nat) (p : List Nat) : Prop := p.Nodup ∧ ∀ v ∈ p, v < n
theorem Pre.snoc {n : Nat} {p : List Nat} (h : Pre n p) {v : Nat} (hv : v < n) (hn : v ∉ p) : Pre n (p ++ [v]) := by
  refine ⟨?_, fun x hx => ?_⟩
  · rw [List.nodup_append]
    refine ⟨h.1, by simp, fun x hx y hy => ?_⟩
    rw [List.mem_singleton] at hy
    subst hy
    intro hxy; subst hxy; exact hn hx
  · rw [List.mem_append, List.mem_singleton] at hx
    rcases hx with hx | rfl
    · exact h.2 x hx
    · exact hv
theorem Pre.len {n : Nat} {p : List Nat} (h : Pre n p) : p.length ≤ n := nd_lenN h.1 h.2
theorem mem_enum {n : Nat} : ∀ (r : Nat) (p : List Nat), Pre n p → p.length + r = n → ∀ o, o ∈ enum n r p ↔ Pre n o ∧ o.length = n ∧ ∃ q, o = p ++ q := by
  intro r
  induction r with
  | zero =>
    intro p hp hl o
    simp only [enum, List.mem_singleton]
    constructor
    · rintro rfl; exact ⟨hp, by omega, [], by simp⟩
    · rintro ⟨h1, h2, q, rfl⟩
      have : q = [] := List.eq_nil_of_length_eq_zero (by rw [List.length_append] at h2; omega)
      rw [this, List.append_nil]
  | succ r ih =>
    intro p hp hl o
    simp only [enum, List.mem_flatMap, List.mem_range]
    constructor
    · rintro ⟨v, hv, h⟩
      by_cases hm : v ∈ p
      · rw [if_pos hm] at h; cases h
      · rw [if_neg hm] at h
        obtain ⟨h1, h2, q, rfl⟩ := (ih _ (hp.snoc hv hm) (by simp; omega) o).1 h
        exact ⟨h1, h2, v :: q, by simp⟩
    · rintro ⟨h1, h2, q, rfl⟩
      cases q with
      | nil => simp at h2; omega
      | cons v q =>
        have hv : v < n := h1.2 v (by simp)
        have hm : v ∉ p := fun hh => by
          have := (List.nodup_append.1 h1.1).2.2 v hh v (by simp)
          exact this rfl
        refine ⟨v, hv, ?_⟩
        rw [if_neg hm]
        exact (ih _ (hp.snoc hv hm) (by simp; omega) _).2 ⟨h1, h2, q, by simp⟩

/-! The table. -/
def tKg (a : List (Int × Int)) (w : List Int) (f : Nat → Int) (s : Nat) : Nat → Int
  | 0 => -1
  | v + 1 => if s.testBit v then tKg a w f s v else if tKg a w f s v < 0 ∨ bw a w v s + f (s ||| 2 ^ v) < tKg a w f s v then bw a w v s + f (s ||| 2 ^ v) else tKg a w f s v
def T (n : Nat) (a : List (Int × Int)) (w : List Int) : Nat → Nat → Int
  | 0, _ => 0
  | r + 1, s => tKg a w (T n a w r) s n
def Wok (a : List (Int × Int)) (w : List Int) : Prop := ∀ i, i < a.length → 0 ≤ w.getD i 0
theorem bw_nonneg {a : List (Int × Int)} {w : List Int} (hw : Wok a w) (v s : Nat) : 0 ≤ bw a w v s := sumK_nonneg hw
theorem tKg_spec {a : List (Int × Int)} {w : List Int} (hw : Wok a w) {f : Nat → Int} {s : Nat} : ∀ k, (∀ v, v < k → s.testBit v = false → 0 ≤ f (s ||| 2 ^ v)) →
    (tKg a w f s k = -1 ∧ ∀ v, v < k → s.testBit v = true) ∨ (0 ≤ tKg a w f s k ∧ (∀ v, v < k → s.testBit v = false → tKg a w f s k ≤ bw a w v s + f (s ||| 2 ^ v)) ∧ ∃ v, v < k ∧ s.testBit v = false ∧ tKg a w f s k = bw a w v s + f (s ||| 2 ^ v)) := by
  intro k
  induction k with
  | zero => intro _; exact .inl ⟨rfl, fun v hv => absurd hv (Nat.not_lt_zero _)⟩
  | succ k ih =>
    intro hf
    have ih := ih (fun v hv => hf v (by omega))
    unfold tKg
    cases hb : s.testBit k with
    | true =>
      rw [if_pos rfl]
      rcases ih with ⟨h1, h2⟩ | ⟨h1, h2, v, h3, h4, h5⟩
      · exact .inl ⟨h1, all_succ h2 hb⟩
      · refine .inr ⟨h1, all_succ h2 (fun hh => by rw [hb] at hh; cases hh), v, by omega, h4, h5⟩
    | false =>
      rw [if_neg (by decide)]
      have h0 := hf k (by omega) hb
      have h00 := bw_nonneg hw k s
      rcases ih with ⟨h1, h2⟩ | ⟨h1, h2, v, h3, h4, h5⟩
      · rw [if_pos (.inl (by omega))]
        refine .inr ⟨by omega, all_succ (fun v hv hv2 => by rw [h2 v hv] at hv2; cases hv2) (fun _ => Int.le_refl _), k, by omega, hb, rfl⟩
      · by_cases hlt : bw a w k s + f (s ||| 2 ^ k) < tKg a w f s k
        · rw [if_pos (.inr hlt)]
          refine .inr ⟨by omega, all_succ (fun v hv hv2 => by have := h2 v hv hv2; omega) (fun _ => Int.le_refl _), k, by omega, hb, rfl⟩
        · rw [if_neg (fun hh => by omega)]
          refine .inr ⟨h1, all_succ h2 (fun _ => by omega), v, by omega, h4, h5⟩
theorem exists_out {n : Nat} {p : List Nat} (hp : Pre n p) (hl : p.length < n) : ∃ v, v < n ∧ v ∉ p := by
  refine Classical.byContradiction fun hn => ?_
  have : ∀ v, v < n → v ∈ p := fun v hv => Classical.byContradiction fun hh => hn ⟨v, hv, hh⟩
  have h1 := nd_len (nats_nodup (List.nodup_range (n := n))) (B := nats p) (fun x hx => by
    obtain ⟨k, rfl, hk⟩ := of_nats hx
    exact mem_nats.2 (this k (List.mem_range.1 hk)))
  rw [nats_len, nats_len, List.length_range] at h1
  omega
theorem mk_out {p : List Nat} {v : Nat} : (mk p).testBit v = false ↔ v ∉ p := by rw [mk_bit]; simp
/-- The table holds the least costs. -/
theorem T_min {n : Nat} {a : List (Int × Int)} {w : List Int} (hw : Wok a w) : ∀ (r : Nat) (p : List Nat), Pre n p → p.length + r = n → 0 ≤ T n a w r (mk p) ∧ (∀ o ∈ enum n r p, bc a w p + T n a w r (mk p) ≤ bc a w o) ∧ ∃ o ∈ enum n r p, bc a w o = bc a w p + T n a w r (mk p) := by
  intro r
  induction r with
  | zero =>
    intro p hp hl
    simp only [T, enum, List.mem_singleton]
    refine ⟨Int.le_refl _, ?_, p, rfl, by omega⟩
    rintro o rfl
    omega
  | succ r ih =>
    intro p hp hl
    have hsp := tKg_spec hw (f := T n a w r) (s := mk p) n (fun v hv hb => by
      have := (ih (p ++ [v]) (hp.snoc hv (mk_out.1 hb)) (by simp; omega)).1
      rwa [mk_snoc] at this)
    show 0 ≤ tKg a w (T n a w r) (mk p) n ∧ _
    obtain ⟨v0, hv0, hn0⟩ := exists_out hp (by omega)
    rcases hsp with ⟨_, h2⟩ | ⟨h1, h2, v, h3, h4, h5⟩
    · have := h2 v0 hv0
      rw [mk_out.2 hn0] at this
      cases this
    · refine ⟨h1, fun o ho => ?_, ?_⟩
      · simp only [enum, List.mem_flatMap, List.mem_range] at ho
        obtain ⟨u, hu, ho⟩ := ho
        by_cases hm : u ∈ p
        · rw [if_pos hm] at ho; cases ho
        · rw [if_neg hm] at ho
          have h6 := (ih (p ++ [u]) (hp.snoc hu hm) (by simp; omega)).2.1 o ho
          rw [bc_snoc hm, mk_snoc] at h6
          have h7 := h2 u hu (mk_out.2 hm)
          show bc a w p + tKg a w (T n a w r) (mk p) n ≤ _
          omega
      · have hm := mk_out.1 h4
        obtain ⟨o, ho, he⟩ := (ih (p ++ [v]) (hp.snoc h3 hm) (by simp; omega)).2.2
        rw [bc_snoc hm, mk_snoc] at he
        refine ⟨o, ?_, ?_⟩
        · simp only [enum, List.mem_flatMap, List.mem_range]
          exact ⟨v, h3, by rw [if_neg hm]; exact ho⟩
        · show _ = bc a w p + tKg a w (T n a w r) (mk p) n
          omega
/-- The least cost of an order. -/
def tot (n : Nat) (a : List (Int × Int)) (w : List Int) : Int := T n a w n 0
theorem tot_min {n : Nat} {a : List (Int × Int)} {w : List Int} (hw : Wok a w) : 0 ≤ tot n a w ∧ (∀ o, Pre n o → o.length = n → tot n a w ≤ bc a w o) ∧ ∃ o, Pre n o ∧ o.length = n ∧ bc a w o = tot n a w := by
  have hp : Pre n [] := ⟨by simp, by simp⟩
  obtain ⟨h1, h2, o, h3, h4⟩ := T_min hw n [] hp (by simp)
  rw [bc_nil] at h4
  have hmem := mem_enum n [] hp (by simp)
  refine ⟨h1, fun o ho hl => ?_, o, ?_, ?_, ?_⟩
  · have := h2 o ((hmem o).2 ⟨ho, hl, o, by simp⟩)
    rw [bc_nil] at this
    simpa [tot, mk] using this
  · exact ((hmem o).1 h3).1
  · exact ((hmem o).1 h3).2.1
  · simpa [tot, mk] using h4
end Go.Proofs.Ytemfmnjhhdeedaa
namespace Go.Proofs.Ytemfmnjhhdeedaa
open Go Go.Abs
set_option linter.unusedSimpArgs false
set_option linter.unusedVariables false
set_option maxRecDepth 20000

/-- The backward pieces of an order. -/
def Bl (a : List (Int × Int)) (o : List Nat) : List Nat := (List.range a.length).filter (bB a o)
theorem mem_Bl {a : List (Int × Int)} {o : List Nat} {i : Nat} : i ∈ Bl a o ↔ i < a.length ∧ bB a o i = true := by
  unfold Bl; rw [List.mem_filter, List.mem_range]
theorem Bl_asc (a : List (Int × Int)) (o : List Nat) : (nats (Bl a o)).Pairwise (· < ·) := by
  unfold nats Bl
  rw [List.pairwise_map]
  exact ((List.pairwise_lt_range).sublist List.filter_sublist).imp fun h => by omega
/-- The best order, with the first of the best sets, so far. -/
def leaf (a : List (Int × Int)) (w : List Int) (b : Option (List Nat × List Nat)) (o : List Nat) : Option (List Nat × List Nat) := match b with
  | none => some (o, Bl a o)
  | some (p, s) => if bc a w o < bc a w p then some (o, Bl a o) else if bc a w o = bc a w p ∧ cmpL (nats (Bl a o)) (nats s) < 0 then some (p, Bl a o) else some (p, s)
def sF (n : Nat) (a : List (Int × Int)) (w : List Int) (r : Nat) (p : List Nat) (b : Option (List Nat × List Nat)) : Option (List Nat × List Nat) := (enum n r p).foldl (leaf a w) b
def sK (n : Nat) (a : List (Int × Int)) (w : List Int) (r : Nat) (p : List Nat) (b : Option (List Nat × List Nat)) (i : Nat) : Option (List Nat × List Nat) := ((List.range i).flatMap fun v => if v ∈ p then [] else enum n r (p ++ [v])).foldl (leaf a w) b
theorem sK_succ (n : Nat) (a : List (Int × Int)) (w : List Int) (r : Nat) (p : List Nat) (b : Option (List Nat × List Nat)) (i : Nat) : sK n a w r p b (i + 1) = if i ∈ p then sK n a w r p b i else sF n a w r (p ++ [i]) (sK n a w r p b i) := by
  unfold sK sF
  rw [List.range_succ, List.flatMap_append, List.foldl_append]
  by_cases h : i ∈ p
  · rw [if_pos h]; simp [h]
  · rw [if_neg h]; simp [h]
/-- What is best among some orders. -/
def Best (a : List (Int × Int)) (w : List Int) (L : List (List Nat)) (p s : List Nat) : Prop :=
  L.find? (fun o => decide (bc a w o = bc a w p)) = some p ∧ (∀ o ∈ L, bc a w p ≤ bc a w o) ∧ (∃ q ∈ L, bc a w q = bc a w p ∧ s = Bl a q) ∧ ∀ o ∈ L, bc a w o = bc a w p → cmpL (nats s) (nats (Bl a o)) ≤ 0
theorem leaf_best (a : List (Int × Int)) (w : List Int) (L : List (List Nat)) : (L = [] ∧ L.foldl (leaf a w) none = none) ∨ ∃ p s, L.foldl (leaf a w) none = some (p, s) ∧ Best a w L p s := by
  generalize hq : L.reverse = M
  have : L = M.reverse := by rw [← hq, List.reverse_reverse]
  subst this
  clear hq
  induction M with
  | nil => exact .inl ⟨rfl, rfl⟩
  | cons o M ih =>
    rw [List.reverse_cons, List.foldl_append]
    generalize M.reverse = L at ih ⊢
    rcases ih with ⟨rfl, h⟩ | ⟨p, s, h, b1, b2, ⟨q, b3, b4, b5⟩, b6⟩
    · rw [h]
      refine .inr ⟨o, Bl a o, rfl, by simp, by simp, ⟨o, by simp, rfl, rfl⟩, ?_⟩
      intro o' ho' _
      simp at ho'
      subst ho'
      rw [cmpL_self]; exact Int.le_refl _
    · rw [h]
      show _ ∨ ∃ p' s', leaf a w (some (p, s)) o = some (p', s') ∧ _
      unfold leaf
      simp only
      by_cases c1 : bc a w o < bc a w p
      · rw [if_pos c1]
        refine .inr ⟨o, Bl a o, rfl, ?_, ?_, ⟨o, by simp, rfl, rfl⟩, ?_⟩
        · rw [List.find?_append]
          have : L.find? (fun x => decide (bc a w x = bc a w o)) = none := by
            rw [List.find?_eq_none]
            intro x hx
            have := b2 x hx
            simp
            omega
          rw [this]; simp
        · intro x hx
          rw [List.mem_append, List.mem_singleton] at hx
          rcases hx with hx | rfl
          · have := b2 x hx; omega
          · exact Int.le_refl _
        · intro x hx hxe
          rw [List.mem_append, List.mem_singleton] at hx
          rcases hx with hx | rfl
          · have := b2 x hx; omega
          · rw [cmpL_self]; exact Int.le_refl _
      · rw [if_neg c1]
        have hall : ∀ x ∈ L ++ [o], bc a w p ≤ bc a w x := by
          intro x hx
          rw [List.mem_append, List.mem_singleton] at hx
          rcases hx with hx | rfl
          · exact b2 x hx
          · omega
        have hfind : (L ++ [o]).find? (fun x => decide (bc a w x = bc a w p)) = some p := by rw [List.find?_append, b1]; rfl
        by_cases c2 : bc a w o = bc a w p ∧ cmpL (nats (Bl a o)) (nats s) < 0
        · rw [if_pos c2]
          refine .inr ⟨p, Bl a o, rfl, hfind, hall, ⟨o, by simp, c2.1, rfl⟩, ?_⟩
          intro x hx hxe
          rw [List.mem_append, List.mem_singleton] at hx
          rcases hx with hx | rfl
          · exact cmpL_trans (Int.le_of_lt c2.2) (b6 x hx hxe)
          · rw [cmpL_self]; exact Int.le_refl _
        · rw [if_neg c2]
          refine .inr ⟨p, s, rfl, hfind, hall, ⟨q, by simp [b3], b4, b5⟩, ?_⟩
          intro x hx hxe
          rw [List.mem_append, List.mem_singleton] at hx
          rcases hx with hx | rfl
          · exact b6 x hx hxe
          · have h1 : ¬ cmpL (nats (Bl a x)) (nats s) < 0 := fun hh => c2 ⟨hxe, hh⟩
            have := cmpL_swap (nats s) (nats (Bl a x))
            omega

/-! The order that is read off the table. -/
def gC (n : Nat) (a : List (Int × Int)) (w : List Int) (r s v : Nat) : Bool := !s.testBit v && decide (bw a w v s + T n a w r (s ||| 2 ^ v) = T n a w (r + 1) s)
def gO (n : Nat) (a : List (Int × Int)) (w : List Int) : Nat → List Nat → List Nat
  | 0, p => p
  | r + 1, p => match (List.range n).find? (gC n a w r (mk p)) with
    | some v => gO n a w r (p ++ [v])
    | none => p
theorem find_some_if {α β : Type} (c : α → Bool) (g : α → β) : ∀ l : List α, l.findSome? (fun v => if c v = true then some (g v) else none) = (l.find? c).map g := by
  intro l
  induction l with
  | nil => rfl
  | cons x l ih =>
    rw [List.findSome?_cons, List.find?_cons]
    cases h : c x with
    | true => simp
    | false => simp [ih]
theorem findSome_congr {α β : Type} {f g : α → Option β} : ∀ {l : List α}, (∀ x, x ∈ l → f x = g x) → l.findSome? f = l.findSome? g := by
  intro l
  induction l with
  | nil => intro _; rfl
  | cons x l ih =>
    intro h
    rw [List.findSome?_cons, List.findSome?_cons, h x (by simp), ih (fun y hy => h y (by simp [hy]))]
theorem gO_find {n : Nat} {a : List (Int × Int)} {w : List Int} (hw : Wok a w) : ∀ (r : Nat) (p : List Nat), Pre n p → p.length + r = n → (enum n r p).find? (fun o => decide (bc a w o = bc a w p + T n a w r (mk p))) = some (gO n a w r p) ∧
    (∀ k, r = k + 1 → ∃ v, (List.range n).find? (gC n a w k (mk p)) = some v ∧ v < n ∧ v ∉ p) := by
  intro r
  induction r with
  | zero =>
    intro p hp hl
    refine ⟨?_, fun k hk => by omega⟩
    simp [enum, T, gO]
  | succ r ih =>
    intro p hp hl
    obtain ⟨t1, t2, o, t3, t4⟩ := T_min hw (r + 1) p hp hl
    have hF : ∀ v, v ∈ List.range n → ((if v ∈ p then [] else enum n r (p ++ [v])).find? fun o => decide (bc a w o = bc a w p + T n a w (r + 1) (mk p))) = if gC n a w r (mk p) v = true then some (gO n a w r (p ++ [v])) else none := fun v hv => by
      have hv := List.mem_range.1 hv
      by_cases hm : v ∈ p
      · rw [if_pos hm]
        have : gC n a w r (mk p) v = false := by unfold gC; rw [mk_bit]; simp [hm]
        rw [this]; rfl
      · rw [if_neg hm]
        have hp2 := hp.snoc hv hm
        have hl2 : (p ++ [v]).length + r = n := by simp; omega
        by_cases hc : bw a w v (mk p) + T n a w r (mk p ||| 2 ^ v) = T n a w (r + 1) (mk p)
        · have : gC n a w r (mk p) v = true := by unfold gC; rw [mk_bit]; simp [hm, hc]
          rw [this, if_pos rfl, ← (ih (p ++ [v]) hp2 hl2).1, mk_snoc, bc_snoc hm]
          congr 1
          funext o
          congr 1
          rw [← hc, Int.add_assoc]
        · have : gC n a w r (mk p) v = false := by unfold gC; simp [hc]
          rw [this, if_neg (by decide), List.find?_eq_none]
          intro x hx
          have h1 := (T_min hw r (p ++ [v]) hp2 hl2).2.1 x hx
          rw [mk_snoc, bc_snoc hm] at h1
          have h2 : bc a w p + T n a w (r + 1) (mk p) ≤ bc a w p + bw a w v (mk p) + T n a w r (mk p ||| 2 ^ v) := by
            obtain ⟨y, y1, y2⟩ := (T_min hw r (p ++ [v]) hp2 hl2).2.2
            rw [mk_snoc, bc_snoc hm] at y2
            rw [← y2]
            refine t2 y ?_
            simp only [enum, List.mem_flatMap, List.mem_range]
            exact ⟨v, hv, by rw [if_neg hm]; exact y1⟩
          simp only [decide_eq_true_eq]
          omega
    have hsome : ((List.range n).find? (gC n a w r (mk p))).map (fun v => gO n a w r (p ++ [v])) = (enum n (r + 1) p).find? (fun o => decide (bc a w o = bc a w p + T n a w (r + 1) (mk p))) := by
      rw [← find_some_if]
      simp only [enum]
      rw [List.find?_flatMap]
      exact findSome_congr fun v hv => (hF v hv).symm
    have hex : (enum n (r + 1) p).find? (fun o => decide (bc a w o = bc a w p + T n a w (r + 1) (mk p))) ≠ none := by
      rw [ne_eq, List.find?_eq_none]
      intro hh
      exact hh o t3 (by simpa using t4)
    cases hg : (List.range n).find? (gC n a w r (mk p)) with
    | none => rw [hg] at hsome; exact absurd hsome.symm hex
    | some v =>
      rw [hg] at hsome
      have hvm := List.mem_of_find?_eq_some hg
      have hvc := List.find?_some hg
      refine ⟨?_, fun k hk => ?_⟩
      · rw [← hsome]
        show some _ = some _
        congr 1
        show _ = gO n a w (r + 1) p
        rw [gO, hg]
      · have : k = r := by omega
        subst this
        refine ⟨v, hg, List.mem_range.1 hvm, fun hm => ?_⟩
        unfold gC at hvc
        rw [mk_bit] at hvc
        simp [hm] at hvc
/-- The reference's result. -/
theorem sF_top {n : Nat} {a : List (Int × Int)} {w : List Int} (hw : Wok a w) : ∃ s, sF n a w n [] none = some (gO n a w n [], s) ∧ bc a w (gO n a w n []) = tot n a w ∧ Pre n (gO n a w n []) ∧ (gO n a w n []).length = n ∧
    (∃ q, Pre n q ∧ q.length = n ∧ bc a w q = tot n a w ∧ s = Bl a q) ∧ ∀ o, Pre n o → o.length = n → bc a w o = tot n a w → cmpL (nats s) (nats (Bl a o)) ≤ 0 := by
  have hp : Pre n [] := ⟨by simp, by simp⟩
  have hmem := mem_enum n [] hp (by simp)
  obtain ⟨t1, t2, o0, t3, t4, t5⟩ := tot_min (n := n) hw
  have hfind := (gO_find (n := n) hw n [] hp (by simp)).1
  rw [bc_nil, show (0 : Int) + T n a w n (mk []) = tot n a w by simp [tot, mk]] at hfind
  rcases leaf_best a w (enum n n []) with ⟨h1, _⟩ | ⟨p, s, h1, b1, b2, ⟨q, b3, b4, b5⟩, b6⟩
  · rw [h1] at hfind; cases hfind
  · have hpe := List.mem_of_find?_eq_some b1
    obtain ⟨p1, p2, _⟩ := (hmem p).1 hpe
    have hcost : bc a w p = tot n a w := by
      have h2 := t2 p p1 p2
      have h3 := b2 o0 ((hmem o0).2 ⟨t3, t4, o0, by simp⟩)
      omega
    rw [hcost] at b1 b4 b6
    rw [hfind] at b1
    cases b1
    obtain ⟨q1, q2, _⟩ := (hmem q).1 b3
    exact ⟨s, h1, hcost, p1, p2, ⟨q, q1, q2, b4, b5⟩, fun o h2 h3 h4 => b6 o ((hmem o).2 ⟨h2, h3, o, by simp⟩) h4⟩
end Go.Proofs.Ytemfmnjhhdeedaa
namespace Go.Proofs.Ytemfmnjhhdeedaa
open Go Go.Abs
set_option linter.unusedSimpArgs false
set_option linter.unusedVariables false
set_option maxRecDepth 20000

theorem cmpL_diff2 : ∀ {s t : List Int}, s.Pairwise (· < ·) → t.Pairwise (· < ·) → ∀ {y x : Int}, y ∈ s → y ∉ t → x ∈ t → y < x → (∀ z, z < y → (z ∈ s ↔ z ∈ t)) → cmpL s t < 0 := by
  intro s
  induction s with
  | nil => intro t _ _ y x h; cases h
  | cons a s ih =>
    intro t hs ht y x hy hyt hx hyx hz
    cases t with
    | nil => cases hx
    | cons b t =>
      obtain ⟨s1, s2⟩ := List.pairwise_cons.1 hs
      obtain ⟨t1, t2⟩ := List.pairwise_cons.1 ht
      have hay : a ≤ y := by
        rcases List.mem_cons.1 hy with rfl | h
        · exact Int.le_refl _
        · exact Int.le_of_lt (s1 y h)
      simp only [cmpL]
      rcases Int.lt_trichotomy a b with h | h | h
      · rw [if_pos h]; omega
      · subst h
        rw [if_neg (by omega), if_neg (by omega)]
        have hne : y ≠ a := fun hh => hyt (by rw [hh]; exact List.mem_cons_self)
        have hys : y ∈ s := by
          rcases List.mem_cons.1 hy with h | h
          · exact absurd h hne
          · exact h
        have hxt : x ∈ t := by
          rcases List.mem_cons.1 hx with h | h
          · have := s1 y hys; omega
          · exact h
        refine ih s2 t2 hys (fun hh => hyt (List.mem_cons_of_mem _ hh)) hxt hyx fun z hzy => ?_
        have h0 := hz z hzy
        constructor
        · intro h1
          have h2 := s1 z h1
          rcases List.mem_cons.1 (h0.1 (List.mem_cons_of_mem _ h1)) with h3 | h3
          · omega
          · exact h3
        · intro h1
          have h2 := t1 z h1
          rcases List.mem_cons.1 (h0.2 (List.mem_cons_of_mem _ h1)) with h3 | h3
          · omega
          · exact h3
      · exfalso
        have := (hz b (by omega)).2 List.mem_cons_self
        rcases List.mem_cons.1 this with h3 | h3
        · omega
        · have := s1 b h3; omega
theorem sumK_congr2 {w w' : List Int} {P Q : Nat → Bool} : ∀ {k : Nat}, (∀ i, i < k → (if P i = true then w.getD i 0 else 0) = if Q i = true then w'.getD i 0 else 0) → sumK w P k = sumK w' Q k := by
  intro k
  induction k with
  | zero => intro _; rfl
  | succ k ih =>
    intro h
    show sumK w P k + _ = sumK w' Q k + _
    rw [ih (fun i hi => h i (by omega)), h k (by omega)]
theorem sumK_one {w : List Int} {j : Nat} : ∀ {k : Nat}, j < k → sumK w (fun i => decide (i = j)) k = w.getD j 0 := by
  intro k
  induction k with
  | zero => intro h; omega
  | succ k ih =>
    intro h
    simp only [sumK]
    rcases Nat.lt_or_ge j k with h1 | h1
    · rw [ih h1, if_neg (by simp; omega)]; omega
    · have : j = k := by omega
      subst this
      have : sumK w (fun i => decide (i = j)) j = 0 := by
        have : ∀ m, m ≤ j → sumK w (fun i => decide (i = j)) m = 0 := by
          intro m
          induction m with
          | zero => intro _; rfl
          | succ m ihm =>
            intro hm
            simp only [sumK]
            rw [ihm (by omega), if_neg (by simp; omega)]; omega
        exact this j (Nat.le_refl _)
      rw [this, if_pos (by simp)]; omega
/-- One entry is not more than the sum. -/
theorem sumK_one_le {w : List Int} {P : Nat → Bool} {k j : Nat} (hw : ∀ i, i < k → 0 ≤ w.getD i 0) (hj : j < k) (hp : P j = true) : w.getD j 0 ≤ sumK w P k := by
  rw [← sumK_one (w := w) hj]
  refine sumK_sub hw fun i _ hi => ?_
  rw [of_decide_eq_true hi]; exact hp
/-- Weights of evidence. -/
def W1 (a : List (Int × Int)) (w : List Int) : Prop := w.length = a.length ∧ a.length ≤ 24 ∧ ∀ i, i < a.length → 1 ≤ w.getD i 0 ∧ w.getD i 0 ≤ 100
theorem W1.ok {a : List (Int × Int)} {w : List Int} (h : W1 a w) : Wok a w := fun i hi => by have := h.2.2 i hi; omega
/-- A best order. -/
def Opt (n : Nat) (a : List (Int × Int)) (w : List Int) (o : List Nat) : Prop := Pre n o ∧ o.length = n ∧ bc a w o = tot n a w
/-- Which pieces are chosen, and the weights that are left, after i pieces. -/
def lsK (n : Nat) (a : List (Int × Int)) (w : List Int) : Nat → List Nat × Int × List Int
  | 0 => ([], 0, w)
  | i + 1 => if (lsK n a w i).2.1 + w.getD i 0 + tot n a ((lsK n a w i).2.2.set i 0) = tot n a w
      then ((lsK n a w i).1 ++ [i], (lsK n a w i).2.1 + w.getD i 0, (lsK n a w i).2.2.set i 0)
      else ((lsK n a w i).1, (lsK n a w i).2.1, ((lsK n a w i).2.2.set i 0).set i 1000000)
structure Inv (n : Nat) (a : List (Int × Int)) (w : List Int) (i : Nat) (O : List Nat) (S : Int) (L : List Int) : Prop where
  len : L.length = w.length
  at_ : ∀ j, j < a.length → L.getD j 0 = if j < i then (if j ∈ O then 0 else 1000000) else w.getD j 0
  lt : ∀ j ∈ O, j < i
  asc : O.Pairwise (· < ·)
  sum : S = sumK w (fun j => decide (j ∈ O)) a.length
  opt : ∃ o, Opt n a w o ∧ ∀ j, j < i → (bB a o j = true ↔ j ∈ O)
section
variable {n : Nat} {a : List (Int × Int)} {w : List Int} (hw : W1 a w)
include hw
theorem tot_le : tot n a w ≤ 2400 := by
  obtain ⟨h1, h2, o, h3, h4, h5⟩ := tot_min (n := n) hw.ok
  rw [← h5]
  have := sumK_le (w := w) (c := 100) (P := bB a o) (k := a.length) (fun i hi => (hw.2.2 i hi).2) (by omega)
  have := hw.2.1
  unfold bc
  omega
theorem set_at {L : List Int} (hl : L.length = w.length) {i : Nat} (hi : i < a.length) (v : Int) (j : Nat) : (L.set i v).getD j 0 = if i = j then v else L.getD j 0 := getD_setI (by rw [hl, hw.1]; exact hi) v j
omit hw in
theorem sum_step {O : List Nat} {i : Nat} (hi : i < a.length) (hO : ∀ j ∈ O, j < i) : sumK w (fun j => decide (j ∈ O ++ [i])) a.length = sumK w (fun j => decide (j ∈ O)) a.length + w.getD i 0 := by
  rw [← sumK_one (w := w) hi, ← sumK_or]
  · refine sumK_congr fun j _ => ?_
    by_cases h1 : j ∈ O <;> by_cases h2 : j = i <;> simp [h1, h2]
  · intro j _ ⟨h1, h2⟩
    have := hO j (of_decide_eq_true h1)
    have := of_decide_eq_true h2
    omega
/-- Whether one more piece can be chosen. -/
theorem step_iff {i : Nat} (hi : i < a.length) {O : List Nat} {S : Int} {L : List Int} (k : Inv n a w i O S L) :
    S + w.getD i 0 + tot n a (L.set i 0) = tot n a w ↔ ∃ o, Opt n a w o ∧ (∀ j, j < i → (bB a o j = true ↔ j ∈ O)) ∧ bB a o i = true := by
  have hS := k.sum
  have htot := tot_le (n := n) hw
  have hset := set_at hw k.len hi 0
  have hwi := hw.2.2 i hi
  have hL1 : ∀ j, j < a.length → (L.set i 0).getD j 0 = if j < i then (if j ∈ O then 0 else 1000000) else if j = i then 0 else w.getD j 0 := fun j hj => by
    rw [hset, k.at_ j hj]
    by_cases h1 : i = j
    · subst h1; simp
    · have h2 : ¬ j = i := fun hh => h1 hh.symm
      rw [if_neg h1, if_neg h2]
  have hok1 : Wok a (L.set i 0) := fun j hj => by
    rw [hL1 j hj]
    have := hw.2.2 j hj
    split
    · split <;> omega
    · split <;> omega
  have hSnn : 0 ≤ S := by rw [hS]; exact sumK_nonneg hw.ok
  obtain ⟨g1, g2, og, g3, g4, g5⟩ := tot_min (n := n) hok1
  obtain ⟨t1, t2, ot, t3, t4, t5⟩ := tot_min (n := n) hw.ok
  -- an order that leads none of the others backward
  have hav : ∀ o, (∀ j, j < i → bB a o j = true → j ∈ O) → S + w.getD i 0 + bc a (L.set i 0) o = sumK w (fun j => decide (j ∈ O ++ [i]) || (decide (i < j) && bB a o j)) a.length := fun o ho => by
    rw [sumK_or, sum_step hi k.lt, ← hS]
    · congr 1
      unfold bc
      refine sumK_congr2 fun j hj => ?_
      rw [hL1 j hj]
      by_cases hb : bB a o j = true
      · rw [if_pos hb, hb, Bool.and_true]
        rcases Nat.lt_trichotomy j i with h1 | h1 | h1
        · rw [if_pos h1, if_pos (ho j h1 hb), decide_eq_false (by omega), if_neg (by decide)]
        · subst h1; rw [if_neg (by omega), if_pos rfl, decide_eq_false (by omega), if_neg (by decide)]
        · rw [if_neg (by omega), if_neg (by omega), decide_eq_true h1, if_pos rfl]
      · have hb' : bB a o j = false := Bool.eq_false_iff.2 hb
        rw [if_neg hb, hb', Bool.and_false, if_neg (by decide)]
    · intro j _ ⟨h1, h2⟩
      rw [Bool.and_eq_true, decide_eq_true_eq] at h2
      have := of_decide_eq_true h1
      rw [List.mem_append, List.mem_singleton] at this
      rcases this with h3 | rfl
      · have := k.lt j h3; omega
      · omega
  have hle : ∀ o, (∀ j, j < i → bB a o j = true → j ∈ O) → bc a w o ≤ S + w.getD i 0 + bc a (L.set i 0) o := fun o ho => by
    rw [hav o ho]
    refine sumK_sub hw.ok fun j hj hb => ?_
    rcases Nat.lt_trichotomy j i with h1 | h1 | h1
    · simp [ho j h1 hb]
    · subst h1; simp
    · simp [h1, hb]
  have hbig : ∀ o, ¬ (∀ j, j < i → bB a o j = true → j ∈ O) → 1000000 ≤ bc a (L.set i 0) o := fun o ho => by
    obtain ⟨j, hj⟩ := Classical.not_forall.1 ho
    have h1 : j < i := Classical.byContradiction fun hh => hj fun hji => absurd hji hh
    have h2 : bB a o j = true := Classical.byContradiction fun hh => hj fun _ hb => absurd hb hh
    have h3 : j ∉ O := fun hh => hj fun _ _ => hh
    have := sumK_one_le hok1 (show j < a.length by omega) h2
    rw [hL1 j (by omega), if_pos h1, if_neg h3] at this
    exact this
  constructor
  · intro heq
    have hgood : ∀ j, j < i → bB a og j = true → j ∈ O := Classical.byContradiction fun hn => by
      have := hbig og hn
      omega
    have h1 := hle og hgood
    have h2 := t2 og g3 g4
    have hopt : bc a w og = tot n a w := by omega
    have hall : ∀ j, j < a.length → (decide (j ∈ O ++ [i]) || (decide (i < j) && bB a og j)) = true → bB a og j = true := fun j hj hq => by
      refine Classical.byContradiction fun hb => ?_
      have := sumK_lt (w := w) (P := bB a og) (Q := fun j => decide (j ∈ O ++ [i]) || (decide (i < j) && bB a og j)) (k := a.length) (fun m hm => by have := hw.2.2 m hm; omega) (fun m hm hb2 => ?_) hj hq (Bool.eq_false_iff.2 hb)
      · rw [← hav og hgood] at this
        have h3 : sumK w (bB a og) a.length = bc a w og := rfl
        rw [h3] at this
        omega
      · rcases Nat.lt_trichotomy m i with h4 | h4 | h4
        · simp [hgood m h4 hb2]
        · subst h4; simp
        · simp [h4, hb2]
    exact ⟨og, ⟨g3, g4, hopt⟩, fun j hj => ⟨hgood j hj, fun hm => hall j (by omega) (by simp [hm])⟩, hall i hi (by simp)⟩
  · rintro ⟨o, ⟨p1, p2, p3⟩, p4, p5⟩
    have hgood : ∀ j, j < i → bB a o j = true → j ∈ O := fun j hj => (p4 j hj).1
    have heq : S + w.getD i 0 + bc a (L.set i 0) o = tot n a w := by
      rw [hav o hgood, ← p3]
      refine sumK_congr fun j hj => ?_
      rcases Nat.lt_trichotomy j i with h1 | h1 | h1
      · have h2 : ¬ i < j := by omega
        have h3 : ¬ j = i := by omega
        rw [Bool.eq_iff_iff, p4 j h1]
        simp [h2, h3]
      · subst h1; simp [p5]
      · have h2 : ¬ j = i := by omega
        have h3 : j ∉ O := fun hh => by have := k.lt j hh; omega
        simp [h1, h2, h3]
    have h1 := g2 o p1 p2
    rcases Classical.em (∀ j, j < i → bB a og j = true → j ∈ O) with hg | hg
    · have h2 := hle og hg
      have h3 := t2 og g3 g4
      omega
    · have := hbig og hg
      omega
theorem inv_step {i : Nat} (hi : i < a.length) {O : List Nat} {S : Int} {L : List Int} (k : Inv n a w i O S L) :
    (S + w.getD i 0 + tot n a (L.set i 0) = tot n a w → Inv n a w (i + 1) (O ++ [i]) (S + w.getD i 0) (L.set i 0)) ∧
    (¬ S + w.getD i 0 + tot n a (L.set i 0) = tot n a w → Inv n a w (i + 1) O S ((L.set i 0).set i 1000000)) := by
  have hset := set_at hw k.len hi
  have hiff := step_iff hw hi k
  constructor
  · intro heq
    obtain ⟨o, o1, o2, o3⟩ := hiff.1 heq
    refine ⟨by rw [List.length_set]; exact k.len, fun j hj => ?_, fun j hj => ?_, ?_, ?_, o, o1, fun j hj => ?_⟩
    · rw [hset, k.at_ j hj]
      by_cases h1 : i = j
      · subst h1; simp
      · rw [if_neg h1]
        by_cases h2 : j < i
        · have h3 : ¬ j = i := by omega
          rw [if_pos h2, if_pos (show j < i + 1 by omega)]
          simp [h3]
        · rw [if_neg h2, if_neg (by omega)]
    · rw [List.mem_append, List.mem_singleton] at hj
      rcases hj with hj | rfl
      · have := k.lt j hj; omega
      · omega
    · rw [List.pairwise_append]
      refine ⟨k.asc, by simp, fun x hx y hy => ?_⟩
      rw [List.mem_singleton] at hy
      subst hy
      exact k.lt x hx
    · rw [sum_step hi k.lt, ← k.sum]
    · rw [List.mem_append, List.mem_singleton]
      rcases lt_succ_cases hj with h1 | rfl
      · rw [o2 j h1]
        constructor
        · intro h; exact .inl h
        · rintro (h | h)
          · exact h
          · omega
      · exact ⟨fun _ => .inr rfl, fun _ => o3⟩
  · intro hne
    obtain ⟨o, o1, o2⟩ := k.opt
    have hno : bB a o i = false := Bool.eq_false_iff.2 fun hb => hne (hiff.2 ⟨o, o1, o2, hb⟩)
    refine ⟨by rw [List.length_set, List.length_set]; exact k.len, fun j hj => ?_, fun j hj => by have := k.lt j hj; omega, k.asc, k.sum, o, o1, fun j hj => ?_⟩
    · rw [set_at hw (by rw [List.length_set]; exact k.len) hi, hset, k.at_ j hj]
      by_cases h1 : i = j
      · subst h1
        have : i ∉ O := fun hh => by have := k.lt i hh; omega
        simp [this]
      · rw [if_neg h1, if_neg h1]
        by_cases h2 : j < i
        · rw [if_pos h2, if_pos (show j < i + 1 by omega)]
        · rw [if_neg h2, if_neg (by omega)]
    · rcases lt_succ_cases hj with h1 | rfl
      · exact o2 j h1
      · rw [hno]
        exact ⟨fun h => (by cases h), fun h => by have := k.lt j h; omega⟩
theorem lsK_inv : ∀ i, i ≤ a.length → Inv n a w i (lsK n a w i).1 (lsK n a w i).2.1 (lsK n a w i).2.2 := by
  intro i
  induction i with
  | zero =>
    intro _
    obtain ⟨t1, t2, o, t3, t4, t5⟩ := tot_min (n := n) hw.ok
    have h0 : ∀ k, sumK w (fun j => decide (j ∈ ([] : List Nat))) k = 0 := by
      intro k
      induction k with
      | zero => rfl
      | succ k ih => simp [sumK] at ih ⊢; exact ih
    exact ⟨rfl, fun j _ => by simp [lsK], by simp [lsK], by simp [lsK], (h0 _).symm, o, ⟨t3, t4, t5⟩, fun j hj => absurd hj (Nat.not_lt_zero _)⟩
  | succ i ih =>
    intro hi
    have k := ih (by omega)
    obtain ⟨h1, h2⟩ := inv_step hw (show i < a.length by omega) k
    unfold lsK
    by_cases hc : (lsK n a w i).2.1 + w.getD i 0 + tot n a ((lsK n a w i).2.2.set i 0) = tot n a w
    · rw [if_pos hc]; exact h1 hc
    · rw [if_neg hc]; exact h2 hc
omit hw in
/-- What is chosen of the first pieces stays. -/
theorem lsK_pre (i : Nat) : ∀ d, i + d ≤ a.length → ∀ j, j < i → (j ∈ (lsK n a w (i + d)).1 ↔ j ∈ (lsK n a w i).1) := by
  intro d
  induction d with
  | zero => intro _ j _; exact Iff.rfl
  | succ d ih =>
    intro hd j hj
    rw [← ih (by omega) j hj]
    show j ∈ (lsK n a w (i + d + 1)).1 ↔ _
    rw [lsK]
    split
    · simp only [List.mem_append, List.mem_singleton]
      constructor
      · rintro (h | h)
        · exact h
        · omega
      · intro h; exact .inl h
    · exact Iff.rfl
/-- The chosen pieces: the first of the best sets. -/
theorem lsK_first : (∃ q, Opt n a w q ∧ (lsK n a w a.length).1 = Bl a q) ∧ ∀ o, Opt n a w o → cmpL (nats (lsK n a w a.length).1) (nats (Bl a o)) ≤ 0 := by
  have k := lsK_inv (n := n) hw a.length (Nat.le_refl _)
  have hascN : (nats (lsK n a w a.length).1).Pairwise (· < ·) := by
    unfold nats
    rw [List.pairwise_map]
    exact k.asc.imp fun h => by omega
  obtain ⟨q, q1, q2⟩ := k.opt
  have hO : (lsK n a w a.length).1 = Bl a q := by
    have : nats (lsK n a w a.length).1 = nats (Bl a q) := asc_ext hascN (Bl_asc a q) fun x => by
      constructor
      · intro hx
        obtain ⟨j, rfl, hj⟩ := of_nats hx
        have := k.lt j hj
        exact mem_nats.2 (mem_Bl.2 ⟨this, (q2 j this).2 hj⟩)
      · intro hx
        obtain ⟨j, rfl, hj⟩ := of_nats hx
        obtain ⟨h1, h2⟩ := mem_Bl.1 hj
        exact mem_nats.2 ((q2 j h1).1 h2)
    unfold nats at this
    exact List.map_inj_right (fun x y h => by omega) |>.1 this
  refine ⟨⟨q, q1, hO⟩, fun o ho => ?_⟩
  rcases Classical.em (∃ j, j < a.length ∧ ¬ (bB a o j = true ↔ j ∈ (lsK n a w a.length).1)) with hd | hd
  · obtain ⟨j, ⟨hj, hne⟩, hmin⟩ := least_of hd
    have hsame : ∀ m, m < j → (bB a o m = true ↔ m ∈ (lsK n a w a.length).1) := fun m hm => Classical.byContradiction fun hh => hmin m hm ⟨by omega, hh⟩
    have kj := lsK_inv (n := n) hw j (by omega)
    have hpre := lsK_pre (n := n) (a := a) (w := w) j (a.length - j) (by omega)
    rw [show j + (a.length - j) = a.length by omega] at hpre
    have hpre2 := lsK_pre (n := n) (a := a) (w := w) (j + 1) (a.length - (j + 1)) (by omega) j (by omega)
    rw [show j + 1 + (a.length - (j + 1)) = a.length by omega] at hpre2
    have hiff := step_iff hw hj kj
    have hjn : bB a o j = false ∧ j ∈ (lsK n a w a.length).1 := by
      by_cases hb : bB a o j = true
      · exfalso
        have heq := hiff.2 ⟨o, ho, fun m hm => by rw [hsame m hm, hpre m hm], hb⟩
        refine hne ⟨fun _ => ?_, fun _ => hb⟩
        rw [hpre2, lsK, if_pos heq]
        simp
      · refine ⟨Bool.eq_false_iff.2 hb, Classical.byContradiction fun hh => hne ⟨fun h => absurd h hb, fun h => absurd h hh⟩⟩
    have hx : ∃ x, x ∈ Bl a o ∧ j < x := Classical.byContradiction fun hn => by
      have hsub : ∀ m, m < a.length → bB a o m = true → bB a q m = true := fun m hm hb => by
        rcases Nat.lt_trichotomy m j with h1 | h1 | h1
        · exact (q2 m hm).2 ((hsame m h1).1 hb)
        · subst h1; rw [hjn.1] at hb; cases hb
        · exact absurd ⟨m, mem_Bl.2 ⟨hm, hb⟩, h1⟩ hn
      have := sumK_lt (w := w) (P := bB a o) (Q := bB a q) (k := a.length) (fun m hm => by have := hw.2.2 m hm; omega) hsub hj ((q2 j hj).2 hjn.2) hjn.1
      have e1 : sumK w (bB a o) a.length = tot n a w := ho.2.2
      have e2 : sumK w (bB a q) a.length = tot n a w := q1.2.2
      omega
    obtain ⟨x, x1, x2⟩ := hx
    refine Int.le_of_lt (cmpL_diff2 hascN (Bl_asc a o) (y := (j : Int)) (x := (x : Int)) (mem_nats.2 hjn.2) (fun hh => ?_) (mem_nats.2 x1) (by omega) fun z hz => ?_)
    · have := (mem_Bl.1 (mem_nats.1 hh)).2
      rw [hjn.1] at this; cases this
    · constructor
      · intro hh
        obtain ⟨m, rfl, hm⟩ := of_nats hh
        exact mem_nats.2 (mem_Bl.2 ⟨k.lt m hm, (hsame m (by omega)).2 hm⟩)
      · intro hh
        obtain ⟨m, rfl, hm⟩ := of_nats hh
        exact mem_nats.2 ((hsame m (by omega)).1 (mem_Bl.1 hm).2)
  · have : nats (lsK n a w a.length).1 = nats (Bl a o) := asc_ext hascN (Bl_asc a o) fun x => by
      have hall : ∀ j, j < a.length → (bB a o j = true ↔ j ∈ (lsK n a w a.length).1) := fun j hj => Classical.byContradiction fun hh => hd ⟨j, hj, hh⟩
      constructor
      · intro hx
        obtain ⟨j, rfl, hj⟩ := of_nats hx
        have := k.lt j hj
        exact mem_nats.2 (mem_Bl.2 ⟨this, (hall j this).2 hj⟩)
      · intro hx
        obtain ⟨j, rfl, hj⟩ := of_nats hx
        obtain ⟨h1, h2⟩ := mem_Bl.1 hj
        exact mem_nats.2 ((hall j h1).1 h2)
    rw [this, cmpL_self]
    exact Int.le_refl _
/-- Both find the same. -/
theorem least_same : ∃ s, sF n a w n [] none = some (gO n a w n [], s) ∧ nats s = nats (lsK n a w a.length).1 := by
  obtain ⟨s, h1, _, _, _, ⟨q, q1, q2, q3, rfl⟩, h6⟩ := sF_top (n := n) hw.ok
  obtain ⟨⟨q', p1, p2⟩, h7⟩ := lsK_first (n := n) hw
  refine ⟨_, h1, ?_⟩
  have e1 := h6 q' p1.1 p1.2.1 p1.2.2
  have e2 := h7 q ⟨q1, q2, q3⟩
  rw [← p2] at e1
  have := cmpL_swap (nats (Bl a q)) (nats (lsK n a w a.length).1)
  exact cmpL_eq (by omega)
end
end Go.Proofs.Ytemfmnjhhdeedaa
