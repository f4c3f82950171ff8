/- Walks over pieces of evidence, shortest cycles, and the order of sets of indices. No condition. -/
import Derived.Test.YtidmekdkfiljjaaGreatK26
import Derived.Test.YtidmekdkfiljjaaGreatK25
import Derived.Shelf.SlIterI.Sorted
import Derived.Test.YtidmekdkfiljjaaGreatProg
namespace Go.Proofs.YtidmekdkfiljjaaGreat
open Go Go.Abs
set_option linter.unusedSimpArgs false
set_option linter.unusedVariables false
set_option maxRecDepth 20000

/-- The least number of which something holds. -/
theorem least_of {p : Nat → Prop} (h : ∃ n, p n) : ∃ n, p n ∧ ∀ m, m < n → ¬ p m := by
  obtain ⟨n, hn⟩ := h
  induction n using Nat.strongRecOn with
  | _ n ih =>
    rcases Classical.em (∃ m, m < n ∧ p m) with ⟨m, h1, h2⟩ | hno
    · exact ih m h1 h2
    · exact ⟨n, hn, fun m hm hp => hno ⟨m, hm, hp⟩⟩
theorem nd_len : ∀ {A B : List Int}, A.Nodup → (∀ x ∈ A, x ∈ B) → A.length ≤ B.length := by
  intro A
  induction A with
  | nil => intro B _ _; simp
  | cons a A ih =>
    intro B hn hs
    obtain ⟨h1, h2⟩ := List.nodup_cons.1 hn
    have hm := hs a (by simp)
    have := ih (B := B.erase a) h2 (fun x hx => by
      have hne : x ≠ a := fun hh => by subst hh; exact h1 hx
      exact (List.mem_erase_of_ne hne).2 (hs x (by simp [hx])))
    rw [List.length_erase_of_mem hm] at this
    have hp := List.length_pos_of_mem hm
    simp only [List.length_cons]
    omega
/-- Lists without a repetition, of the same length: the one has all of the other. -/
theorem nd_all {A B : List Int} (hA : A.Nodup) (hs : ∀ x ∈ A, x ∈ B) (hl : B.length ≤ A.length) : ∀ x ∈ B, x ∈ A := fun x hx => by
  refine Classical.byContradiction fun hn => ?_
  have := nd_len (A := x :: A) (B := B) (List.nodup_cons.2 ⟨hn, hA⟩) (fun y hy => by
    rcases List.mem_cons.1 hy with rfl | hy
    · exact hx
    · exact hs y hy)
  simp only [List.length_cons] at this
  omega
theorem nats_len (l : List Nat) : (nats l).length = l.length := by simp [nats]
theorem mem_nats {l : List Nat} {k : Nat} : (k : Int) ∈ nats l ↔ k ∈ l := by
  unfold nats
  rw [List.mem_map]
  constructor
  · rintro ⟨j, h1, h2⟩
    have : j = k := by omega
    rw [← this]; exact h1
  · intro h; exact ⟨k, h, rfl⟩
theorem of_nats {l : List Nat} {x : Int} (h : x ∈ nats l) : ∃ k : Nat, x = k ∧ k ∈ l := by
  unfold nats at h
  obtain ⟨j, h1, rfl⟩ := List.mem_map.1 h
  exact ⟨j, rfl, h1⟩
theorem nats_nodup {l : List Nat} (h : l.Nodup) : (nats l).Nodup := by
  unfold nats List.Nodup
  rw [List.pairwise_map]
  exact h.imp fun hab hh => hab (by omega)
theorem nats_append (l m : List Nat) : nats (l ++ m) = nats l ++ nats m := by simp [nats]
theorem nd_lenN {A : List Nat} {n : Nat} (hA : A.Nodup) (hs : ∀ x ∈ A, x < n) : A.length ≤ n := by
  have := nd_len (nats_nodup hA) (B := nats (List.range n)) (fun x hx => by
    obtain ⟨k, rfl, hk⟩ := of_nats hx
    exact mem_nats.2 (List.mem_range.2 (hs k hk)))
  rwa [nats_len, nats_len, List.length_range] at this
theorem nodup_of_map {α β : Type} {f : α → β} {l : List α} (h : (l.map f).Nodup) : l.Nodup := by
  unfold List.Nodup at *
  rw [List.pairwise_map] at h
  exact h.imp fun hab hh => hab (by rw [hh])
theorem inj_of_map {α β : Type} {f : α → β} : ∀ {l : List α}, (l.map f).Nodup → ∀ {x y : α}, x ∈ l → y ∈ l → f x = f y → x = y := by
  intro l
  induction l with
  | nil => intro _ x y hx; cases hx
  | cons z l ih =>
    intro h x y hx hy e
    rw [List.map_cons] at h
    obtain ⟨h1, h2⟩ := List.nodup_cons.1 h
    rcases List.mem_cons.1 hx with h3 | h3 <;> rcases List.mem_cons.1 hy with h4 | h4
    · rw [h3, h4]
    · rw [h3] at e; exact absurd (List.mem_map.2 ⟨y, h4, e.symm⟩) h1
    · rw [h4] at e; exact absurd (List.mem_map.2 ⟨x, h3, e⟩) h1
    · exact ih h2 h3 h4 e

/-! The order of lists. -/
def cmpL : List Int → List Int → Int
  | [], [] => 0
  | [], _ :: _ => -1
  | _ :: _, [] => 1
  | x :: xs, y :: ys => if x < y then -1 else if y < x then 1 else cmpL xs ys
theorem cmpL_self (s : List Int) : cmpL s s = 0 := by
  induction s with
  | nil => rfl
  | cons x s ih => simp [cmpL, ih]
theorem cmpL_swap : ∀ (s t : List Int), cmpL t s = - cmpL s t := by
  intro s
  induction s with
  | nil => intro t; cases t <;> rfl
  | cons x s ih =>
    intro t
    cases t with
    | nil => rfl
    | cons y t =>
      simp only [cmpL, ih t]
      rcases Int.lt_trichotomy x y with h | h | h
      · rw [if_neg (by omega), if_pos h, if_pos h]; rfl
      · rw [if_neg (by omega), if_neg (by omega), if_neg (by omega), if_neg (by omega)]
      · rw [if_pos h, if_neg (by omega), if_pos h]
theorem cmpL_eq : ∀ {s t : List Int}, cmpL s t = 0 → s = t := by
  intro s
  induction s with
  | nil => intro t h; cases t with
    | nil => rfl
    | cons y t => simp [cmpL] at h
  | cons x s ih =>
    intro t h
    cases t with
    | nil => simp [cmpL] at h
    | cons y t =>
      simp only [cmpL] at h
      split at h
      · omega
      · split at h
        · omega
        · have : x = y := by omega
          rw [this, ih h]
theorem cmpL_trans : ∀ {s t u : List Int}, cmpL s t ≤ 0 → cmpL t u ≤ 0 → cmpL s u ≤ 0 := by
  intro s
  induction s with
  | nil => intro t u h k; cases u <;> simp [cmpL]
  | cons x s ih =>
    intro t u h k
    cases t with
    | nil => simp [cmpL] at h
    | cons y t =>
      cases u with
      | nil => simp [cmpL] at k
      | cons z u =>
        simp only [cmpL] at *
        split
        · omega
        · split
          · split at h
            · split at k
              · omega
              · split at k
                · omega
                · omega
            · split at h
              · omega
              · split at k
                · omega
                · split at k
                  · omega
                  · omega
          · split at h
            · split at k
              · omega
              · split at k
                · omega
                · omega
            · split at h
              · omega
              · split at k
                · omega
                · split at k
                  · omega
                  · exact ih h k
/-- The least difference decides. -/
theorem cmpL_diff : ∀ {s t : List Int}, s.Pairwise (· < ·) → t.Pairwise (· < ·) → s.length = t.length → ∀ {y : Int}, y ∈ s → y ∉ t → (∀ z, z < y → (z ∈ s ↔ z ∈ t)) → cmpL s t < 0 := by
  intro s
  induction s with
  | nil => intro t _ _ _ y h; cases h
  | cons a s ih =>
    intro t hs ht hl y hy hyt hz
    cases t with
    | nil => simp at hl
    | cons b t =>
      obtain ⟨s1, s2⟩ := List.pairwise_cons.1 hs
      obtain ⟨t1, t2⟩ := List.pairwise_cons.1 ht
      have hay : a ≤ y := by
        rcases List.mem_cons.1 hy with rfl | h
        · exact Int.le_refl _
        · exact Int.le_of_lt (s1 y h)
      simp only [cmpL]
      rcases Int.lt_trichotomy a b with h | h | h
      · rw [if_pos h]; omega
      · subst h
        rw [if_neg (by omega), if_neg (by omega)]
        have hne : y ≠ a := fun hh => hyt (by rw [hh]; exact List.mem_cons_self)
        have hys : y ∈ s := by
          rcases List.mem_cons.1 hy with h | h
          · exact absurd h hne
          · exact h
        refine ih s2 t2 (by simpa using hl) hys (fun hh => hyt (List.mem_cons_of_mem _ hh)) fun z hzy => ?_
        have h0 := hz z hzy
        constructor
        · intro h1
          have h2 := s1 z h1
          rcases List.mem_cons.1 (h0.1 (List.mem_cons_of_mem _ h1)) with h3 | h3
          · omega
          · exact h3
        · intro h1
          have h2 := t1 z h1
          rcases List.mem_cons.1 (h0.2 (List.mem_cons_of_mem _ h1)) with h3 | h3
          · omega
          · exact h3
      · exfalso
        have := (hz b (by omega)).2 List.mem_cons_self
        rcases List.mem_cons.1 this with h3 | h3
        · omega
        · have := s1 b h3; omega
/-- Ascending lists with the same elements. -/
theorem asc_ext : ∀ {s t : List Int}, s.Pairwise (· < ·) → t.Pairwise (· < ·) → (∀ x, x ∈ s ↔ x ∈ t) → s = t := by
  intro s
  induction s with
  | nil => intro t _ _ h; cases t with
    | nil => rfl
    | cons b t => exact absurd ((h b).2 List.mem_cons_self) (by simp)
  | cons a s ih =>
    intro t hs ht h
    cases t with
    | nil => exact absurd ((h a).1 List.mem_cons_self) (by simp)
    | cons b t =>
      obtain ⟨s1, s2⟩ := List.pairwise_cons.1 hs
      obtain ⟨t1, t2⟩ := List.pairwise_cons.1 ht
      have hab : a = b := by
        have h1 := (h a).1 List.mem_cons_self
        have h2 := (h b).2 List.mem_cons_self
        rcases List.mem_cons.1 h1 with h1 | h1
        · exact h1
        · rcases List.mem_cons.1 h2 with h2 | h2
          · exact h2.symm
          · have := s1 b h2; have := t1 a h1; omega
      subst hab
      rw [ih s2 t2 fun x => ?_]
      have h0 := h x
      constructor
      · intro h1
        have h2 := s1 x h1
        rcases List.mem_cons.1 (h0.1 (List.mem_cons_of_mem _ h1)) with h3 | h3
        · omega
        · exact h3
      · intro h1
        have h2 := t1 x h1
        rcases List.mem_cons.1 (h0.2 (List.mem_cons_of_mem _ h1)) with h3 | h3
        · omega
        · exact h3
theorem asc_nodup {s : List Int} (h : s.Pairwise (· < ·)) : s.Nodup := h.imp fun hab hh => by omega
theorem srt_ascN {l : List Int} (h : l.Nodup) : (srt l).Pairwise (· < ·) := by
  have h1 := srt_sorted l
  have h2 : (srt l).Pairwise (· ≠ ·) := (srt_perm l).nodup_iff.2 h
  exact (h1.and h2).imp fun ⟨x, y⟩ => by omega
theorem mem_srt {l : List Int} {x : Int} : x ∈ srt l ↔ x ∈ l := (srt_perm l).mem_iff

/-! Walks. -/
def fr (a : List (Int × Int)) (k : Nat) : Nat := (a.getD k (0, 0)).1.toNat
def tt (a : List (Int × Int)) (k : Nat) : Nat := (a.getD k (0, 0)).2.toNat
/-- A walk over pieces. -/
def IW (a : List (Int × Int)) : Nat → List Nat → Nat → Prop
  | u, [], v => u = v
  | u, k :: ks, v => k < a.length ∧ fr a k = u ∧ IW a (tt a k) ks v
theorem iw_append {a : List (Int × Int)} : ∀ {p : List Nat} {u x : Nat}, IW a u p x → ∀ {q : List Nat} {v : Nat}, IW a x q v → IW a u (p ++ q) v := by
  intro p
  induction p with
  | nil => intro u x h q v k; cases h; exact k
  | cons k p ih => intro u x h q v kk; exact ⟨h.1, h.2.1, ih h.2.2 kk⟩
theorem iw_split {a : List (Int × Int)} : ∀ {p : List Nat} {u : Nat} {q : List Nat} {v : Nat}, IW a u (p ++ q) v → ∃ x, IW a u p x ∧ IW a x q v := by
  intro p
  induction p with
  | nil => intro u q v h; exact ⟨u, rfl, h⟩
  | cons k p ih =>
    intro u q v h
    obtain ⟨x, h1, h2⟩ := ih h.2.2
    exact ⟨x, ⟨h.1, h.2.1, h1⟩, h2⟩
theorem iw_lt {a : List (Int × Int)} : ∀ {p : List Nat} {u v : Nat}, IW a u p v → ∀ k ∈ p, k < a.length := by
  intro p
  induction p with
  | nil => intro u v _ k hk; cases hk
  | cons j p ih =>
    intro u v h k hk
    rcases List.mem_cons.1 hk with rfl | hk
    · exact h.1
    · exact ih h.2.2 k hk
/-- From each vertex of a walk on. -/
theorem iw_from {a : List (Int × Int)} : ∀ {p : List Nat} {u v : Nat}, IW a u p v → ∀ {x : Nat}, x ∈ p.map (fr a) ++ [v] → ∃ l r, p = l ++ r ∧ IW a u l x ∧ IW a x r v := by
  intro p
  induction p with
  | nil =>
    intro u v h x hx
    cases h
    simp at hx
    subst hx
    exact ⟨[], [], rfl, rfl, rfl⟩
  | cons k p ih =>
    intro u v h x hx
    rw [List.map_cons, List.cons_append] at hx
    rcases List.mem_cons.1 hx with rfl | hx
    · refine ⟨[], k :: p, rfl, h.2.1.symm, ?_⟩
      exact ⟨h.1, rfl, h.2.2⟩
    · obtain ⟨l, r, h1, h2, h3⟩ := ih h.2.2 hx
      exact ⟨k :: l, r, by rw [h1]; rfl, ⟨h.1, h.2.1, h2⟩, h3⟩
/-- A walk that comes twice to a vertex can be made shorter. -/
theorem iw_cut {a : List (Int × Int)} : ∀ {p : List Nat} {u v : Nat}, IW a u p v → ¬ (p.map (fr a) ++ [v]).Nodup → ∃ q, q.length < p.length ∧ (∀ k ∈ q, k ∈ p) ∧ IW a u q v := by
  intro p
  induction p with
  | nil => intro u v h hn; exact absurd (by simp) hn
  | cons k p ih =>
    intro u v h hn
    rw [List.map_cons, List.cons_append, List.nodup_cons] at hn
    rcases Classical.em (fr a k ∈ p.map (fr a) ++ [v]) with hm | hm
    · obtain ⟨l, r, h1, h2, h3⟩ := iw_from h.2.2 hm
      refine ⟨r, ?_, ?_, ?_⟩
      · rw [h1]; simp; omega
      · intro j hj; rw [h1]; simp [hj]
      · rw [← h.2.1]; exact h3
    · obtain ⟨q, h1, h2, h3⟩ := ih h.2.2 (fun hh => hn ⟨hm, hh⟩)
      refine ⟨k :: q, by simp; omega, ?_, ⟨h.1, h.2.1, h3⟩⟩
      intro j hj
      rcases List.mem_cons.1 hj with rfl | hj
      · simp
      · simp [h2 j hj]
theorem iw_simple {a : List (Int × Int)} : ∀ (m : Nat) {p : List Nat} {u v : Nat}, p.length ≤ m → IW a u p v → ∃ q, q.length ≤ p.length ∧ (∀ k ∈ q, k ∈ p) ∧ IW a u q v ∧ (q.map (fr a) ++ [v]).Nodup := by
  intro m
  induction m with
  | zero =>
    intro p u v hm h
    have : p = [] := List.eq_nil_of_length_eq_zero (by omega)
    subst this
    exact ⟨[], Nat.le_refl _, fun _ h => h, h, by simp⟩
  | succ m ih =>
    intro p u v hm h
    rcases Classical.em (p.map (fr a) ++ [v]).Nodup with hn | hn
    · exact ⟨p, Nat.le_refl _, fun _ h => h, h, hn⟩
    · obtain ⟨q, h1, h2, h3⟩ := iw_cut h hn
      obtain ⟨r, k1, k2, k3, k4⟩ := ih (by omega) h3
      exact ⟨r, by omega, fun k hk => h2 k (k2 k hk), k3, k4⟩
/-- The number of steps of a shortest walk. -/
theorem iw_short {a : List (Int × Int)} {n : Nat} (ha : ∀ k, k < a.length → fr a k < n) {p : List Nat} {u v : Nat} (hv : v < n) (h : IW a u p v) : ∃ q, q.length < n ∧ q.length ≤ p.length ∧ (∀ k ∈ q, k ∈ p) ∧ IW a u q v := by
  obtain ⟨q, h1, h2, h3, h4⟩ := iw_simple _ (Nat.le_refl _) h
  refine ⟨q, ?_, h1, h2, h3⟩
  have := nd_lenN (n := n) h4 (fun x hx => by
    rw [List.mem_append, List.mem_singleton] at hx
    rcases hx with hx | rfl
    · obtain ⟨k, hk, rfl⟩ := List.mem_map.1 hx
      exact ha k (iw_lt h3 k hk)
    · exact hv)
  simp at this
  omega
/-- A closed walk, from each of its pieces on. -/
theorem iw_rot {a : List (Int × Int)} {p : List Nat} {u : Nat} (h : IW a u p u) {k : Nat} (hk : k ∈ p) : ∃ q, IW a (tt a k) q (fr a k) ∧ (k :: q).Perm p := by
  obtain ⟨l, r, rfl⟩ := List.append_of_mem hk
  obtain ⟨x, h1, h2⟩ := iw_split h
  obtain ⟨k1, k2, k3⟩ := h2
  subst k2
  refine ⟨r ++ l, iw_append k3 h1, ?_⟩
  have : (k :: (r ++ l)) = (k :: r) ++ l := rfl
  rw [this]
  exact List.perm_append_comm
/-- A closed walk has one without repetitions in it. -/
theorem closed_simple {a : List (Int × Int)} {p : List Nat} {u : Nat} (h : IW a u p u) (hp : p ≠ []) : ∃ q w, q ≠ [] ∧ IW a w q w ∧ (∀ k ∈ q, k ∈ p) ∧ (q.map (fr a)).Nodup := by
  cases p with
  | nil => exact absurd rfl hp
  | cons k p =>
    obtain ⟨q, h1, h2, h3, h4⟩ := iw_simple _ (Nat.le_refl _) h.2.2
    refine ⟨k :: q, u, by simp, ⟨h.1, h.2.1, h3⟩, ?_, ?_⟩
    · intro j hj
      rcases List.mem_cons.1 hj with rfl | hj
      · simp
      · simp [h2 j hj]
    · rw [List.map_cons, h.2.1]
      have : (u :: q.map (fr a)).Perm (q.map (fr a) ++ [u]) := List.perm_append_comm (l₁ := [u])
      exact this.nodup_iff.2 h4
end Go.Proofs.YtidmekdkfiljjaaGreat
namespace Go.Proofs.YtidmekdkfiljjaaGreat
open Go Go.Abs
set_option linter.unusedSimpArgs false
set_option linter.unusedVariables false
set_option maxRecDepth 20000

section
variable {n : Nat} {a : List (Int × Int)} (he : Ev n a)
include he
theorem ev_k {k : Nat} (hk : k < a.length) : a.getD k (0, 0) = ((fr a k : Int), (tt a k : Int)) ∧ fr a k < n ∧ tt a k < n ∧ fr a k ≠ tt a k := by
  obtain ⟨h1, h2, h3⟩ := he.2.2.2 k hk
  unfold fr tt
  refine ⟨Prod.ext ?_ ?_, ?_, ?_, ?_⟩
  · simp only; omega
  · simp only; omega
  · omega
  · omega
  · omega
theorem sub_E {s : List Int} (hs : Ix a.length s) {i j : Nat} : arcE n (sub a s) i j ↔ ∃ k : Nat, (k : Int) ∈ s ∧ k < a.length ∧ fr a k = i ∧ tt a k = j := by
  rw [arcE_iff (sub_arc he hs)]
  constructor
  · rintro ⟨q, hq, e⟩
    rw [sub_len] at hq
    obtain ⟨i1, i2, i3⟩ := ix_at hs hq
    rw [sub_get hq, (ev_k he i3).1] at e
    have e1 := congrArg Prod.fst e
    have e2 := congrArg Prod.snd e
    simp only at e1 e2
    refine ⟨(s.getD q 0).toNat, ?_, i3, by omega, by omega⟩
    rw [show (((s.getD q 0).toNat : Nat) : Int) = s.getD q 0 by omega]
    exact mem_getD hq
  · rintro ⟨k, h1, h2, rfl, rfl⟩
    obtain ⟨q, hq, e⟩ := List.getElem_of_mem h1
    refine ⟨q, by rw [sub_len]; exact hq, ?_⟩
    rw [sub_get hq, show s.getD q 0 = (k : Int) by simp [List.getD, hq, e]]
    simpa using (ev_k he h2).1
theorem way_iw {s : List Int} (hs : Ix a.length s) {i j : Nat} (h : Way (arcE n (sub a s)) i j) : ∃ ks, ks ≠ [] ∧ IW a i ks j ∧ ∀ k ∈ ks, (k : Int) ∈ s := by
  induction h with
  | one e =>
    obtain ⟨k, h1, h2, h3, h4⟩ := (sub_E he hs).1 e
    exact ⟨[k], by simp, ⟨h2, h3, h4⟩, by simpa using h1⟩
  | step e _ ih =>
    obtain ⟨k, h1, h2, h3, h4⟩ := (sub_E he hs).1 e
    obtain ⟨ks, k1, k2, k3⟩ := ih
    refine ⟨k :: ks, by simp, ⟨h2, h3, by rw [h4]; exact k2⟩, ?_⟩
    intro x hx
    rcases List.mem_cons.1 hx with rfl | hx
    · exact h1
    · exact k3 x hx
theorem iw_way {s : List Int} (hs : Ix a.length s) : ∀ {ks : List Nat} {i j : Nat}, ks ≠ [] → IW a i ks j → (∀ k ∈ ks, (k : Int) ∈ s) → Way (arcE n (sub a s)) i j := by
  intro ks
  induction ks with
  | nil => intro i j h; exact absurd rfl h
  | cons k ks ih =>
    intro i j _ h hm
    have e : arcE n (sub a s) i (tt a k) := (sub_E he hs).2 ⟨k, hm k (by simp), h.1, h.2.1, rfl⟩
    cases ks with
    | nil => have := h.2.2; cases this; exact .one e
    | cons k2 ks => exact .step e (ih (by simp) h.2.2 (fun x hx => hm x (by simp [hx])))
theorem cy_iff {s : List Int} (hs : Ix a.length s) : cyB n (sub a s) = true ↔ ∃ ks u, ks ≠ [] ∧ IW a u ks u ∧ ∀ k ∈ ks, (k : Int) ∈ s := by
  rw [cyB_iff (sub_arc he hs)]
  constructor
  · rintro ⟨v, _, h⟩
    obtain ⟨ks, h1, h2, h3⟩ := way_iw he hs h
    exact ⟨ks, v, h1, h2, h3⟩
  · rintro ⟨ks, u, h1, h2, h3⟩
    refine ⟨u, ?_, iw_way he hs h1 h2 h3⟩
    cases ks with
    | nil => exact absurd rfl h1
    | cons k ks => rw [← h2.2.1]; exact (ev_k he h2.1).2.1
end
/-- The number of pieces of a shortest cycle. -/
def Gi (a : List (Int × Int)) (g : Nat) : Prop := 0 < g ∧ (∃ ks u, IW a u ks u ∧ ks.length = g) ∧ ∀ ks u, ks ≠ [] → IW a u ks u → g ≤ ks.length
theorem gi_of {a : List (Int × Int)} {ks : List Nat} {u : Nat} (h : IW a u ks u) (hk : ks ≠ []) : ∃ g, Gi a g := by
  obtain ⟨g, ⟨h1, ks, u, h2, h3⟩, h4⟩ := least_of (p := fun g => 0 < g ∧ ∃ ks u, IW a u ks u ∧ ks.length = g) ⟨ks.length, List.length_pos_iff.2 hk, ks, u, h, rfl⟩
  refine ⟨g, h1, ⟨ks, u, h2, h3⟩, fun ks' u' h5 h6 => ?_⟩
  rcases Nat.lt_or_ge ks'.length g with h7 | h7
  · exact absurd ⟨List.length_pos_iff.2 h5, ks', u', h6, rfl⟩ (h4 _ h7)
  · exact h7
theorem gi_nodup {a : List (Int × Int)} {g : Nat} (hg : Gi a g) {ks : List Nat} {u : Nat} (h : IW a u ks u) (hl : ks.length = g) : (ks.map (fr a)).Nodup := by
  cases ks with
  | nil => simp
  | cons k p =>
    rw [List.map_cons, h.2.1]
    have hp : (u :: p.map (fr a)).Perm (p.map (fr a) ++ [u]) := List.perm_append_comm (l₁ := [u])
    rw [hp.nodup_iff]
    refine Classical.byContradiction fun hn => ?_
    obtain ⟨q, h1, h2, h3⟩ := iw_cut h.2.2 hn
    have := hg.2.2 (k :: q) u (by simp) ⟨h.1, h.2.1, h3⟩
    simp only [List.length_cons] at this hl
    omega
/-- A contradictory set. -/
def Good (n : Nat) (a : List (Int × Int)) (s : List Int) : Prop := Ix a.length s ∧ cyB n (sub a s) = true
/-- The first of the smallest ones. -/
def Fst (n : Nat) (a : List (Int × Int)) (s : List Int) : Prop := Good n a s ∧ ∀ t, Good n a t → s.length < t.length ∨ (s.length = t.length ∧ cmpL s t ≤ 0)
theorem fst_eq {n : Nat} {a : List (Int × Int)} {s t : List Int} (hs : Fst n a s) (ht : Fst n a t) : s = t := by
  have h1 := hs.2 t ht.1
  have h2 := ht.2 s hs.1
  refine cmpL_eq ?_
  have := cmpL_swap s t
  omega
section
variable {n : Nat} {a : List (Int × Int)} (he : Ev n a)
include he
theorem good_gi {s : List Int} (h : Good n a s) : ∃ g, Gi a g := by
  obtain ⟨ks, u, h1, h2, h3⟩ := (cy_iff he h.1).1 h.2
  exact gi_of h2 h1
theorem good_ge {g : Nat} (hg : Gi a g) {s : List Int} (h : Good n a s) : g ≤ s.length ∧ (s.length = g → ∃ ks u, IW a u ks u ∧ ks.length = g ∧ s = srt (nats ks)) := by
  obtain ⟨ks, u, h1, h2, h3⟩ := (cy_iff he h.1).1 h.2
  obtain ⟨q, w, k1, k2, k3, k4⟩ := closed_simple h2 h1
  have hq := hg.2.2 q w k1 k2
  have hnd : (nats q).Nodup := nats_nodup (nodup_of_map k4)
  have hsub : ∀ x ∈ nats q, x ∈ s := fun x hx => by
    obtain ⟨k, rfl, hk⟩ := of_nats hx
    exact h3 k (k3 k hk)
  have hle := nd_len hnd hsub
  rw [nats_len] at hle
  refine ⟨by omega, fun hl => ⟨q, w, k2, by omega, ?_⟩⟩
  refine asc_ext (ix_pw.1 h.1).2 (srt_ascN hnd) fun x => ?_
  rw [mem_srt]
  exact ⟨nd_all hnd hsub (by rw [nats_len]; omega) x, hsub x⟩
omit he in
theorem ix_of {ks : List Nat} (hn : ks.Nodup) (hl : ∀ k ∈ ks, k < a.length) : Ix a.length (srt (nats ks)) := by
  rw [ix_pw]
  refine ⟨fun x hx => ?_, srt_ascN (nats_nodup hn)⟩
  rw [mem_srt] at hx
  obtain ⟨k, rfl, hk⟩ := of_nats hx
  have := hl k hk
  omega
theorem good_of {ks : List Nat} {u : Nat} (h : IW a u ks u) (hk : ks ≠ []) (hn : ks.Nodup) : Good n a (srt (nats ks)) := by
  have hix := ix_of hn (iw_lt h)
  exact ⟨hix, (cy_iff he hix).2 ⟨ks, u, hk, h, fun k hk => mem_srt.2 (mem_nats.2 hk)⟩⟩
omit he in
theorem srtn_len (ks : List Nat) : (srt (nats ks)).length = ks.length := by rw [srt_len, nats_len]
omit he in
/-- The first piece with the same ends. -/
theorem first_of (k : Nat) : ∃ j, (fr a j = fr a k ∧ tt a j = tt a k) ∧ ∀ m, m < j → ¬ (fr a m = fr a k ∧ tt a m = tt a k) := least_of (p := fun j => fr a j = fr a k ∧ tt a j = tt a k) ⟨k, rfl, rfl⟩
/-- A piece that is the first one of its kind. -/
def isF (a : List (Int × Int)) (k : Nat) : Prop := ∀ m, m < k → ¬ (fr a m = fr a k ∧ tt a m = tt a k)
omit he in
/-- Pieces can be changed for the first ones of their kind. -/
theorem firsts : ∀ {ks : List Nat} {u v : Nat}, IW a u ks v → ∃ f : Nat → Nat, (∀ k, fr a (f k) = fr a k ∧ tt a (f k) = tt a k ∧ isF a (f k) ∧ f k ≤ k) ∧ IW a u (ks.map f) v := by
  intro ks u v h
  obtain ⟨f, hf⟩ : ∃ f : Nat → Nat, ∀ k, fr a (f k) = fr a k ∧ tt a (f k) = tt a k ∧ isF a (f k) ∧ f k ≤ k := by
    refine ⟨fun k => Classical.choose (first_of (a := a) k), fun k => ?_⟩
    obtain ⟨⟨h1, h2⟩, h3⟩ := Classical.choose_spec (first_of (a := a) k)
    refine ⟨h1, h2, fun m hm => ?_, ?_⟩
    · rw [h1, h2]; exact h3 m hm
    · rcases Nat.lt_or_ge k (Classical.choose (first_of (a := a) k)) with h4 | h4
      · exact absurd ⟨rfl, rfl⟩ (h3 k h4)
      · exact h4
  refine ⟨f, hf, ?_⟩
  induction ks generalizing u with
  | nil => exact h
  | cons k ks ih =>
    obtain ⟨f1, f2, f3, f4⟩ := hf k
    refine ⟨by have := h.1; omega, by rw [f1]; exact h.2.1, ?_⟩
    rw [f2]
    exact ih h.2.2
/-- A first smallest set made of first pieces. -/
theorem good_first {g : Nat} (hg : Gi a g) {t : List Int} (h : Good n a t) : ∃ ks u, IW a u ks u ∧ ks.length = g ∧ (∀ k ∈ ks, isF a k) ∧ (g < t.length ∨ (g = t.length ∧ cmpL (srt (nats ks)) t ≤ 0)) := by
  obtain ⟨h1, h2⟩ := good_ge he hg h
  have key : ∀ ks u, IW a u ks u → ks.length = g → ∃ ks' , IW a u ks' u ∧ ks'.length = g ∧ (∀ k ∈ ks', isF a k) ∧ cmpL (srt (nats ks')) (srt (nats ks)) ≤ 0 := by
    intro ks u hw hl
    obtain ⟨f, hf, hw'⟩ := firsts hw
    refine ⟨ks.map f, hw', by simpa using hl, ?_, ?_⟩
    · intro k hk
      obtain ⟨j, _, rfl⟩ := List.mem_map.1 hk
      exact (hf j).2.2.1
    · have n1 := gi_nodup hg hw hl
      have n2 := gi_nodup hg hw' (by simpa using hl)
      have d1 := nodup_of_map n1
      have d2 := nodup_of_map n2
      rcases Classical.em (∃ y, (y ∈ ks.map f ∧ y ∉ ks) ∨ (y ∈ ks ∧ y ∉ ks.map f)) with hd | hd
      · obtain ⟨y, hy, hmin⟩ := least_of hd
        have hsame : ∀ z : Nat, z < y → (z ∈ ks.map f ↔ z ∈ ks) := fun z hz => by
          have := hmin z hz
          constructor
          · intro hh; exact Classical.byContradiction fun hn => this (.inl ⟨hh, hn⟩)
          · intro hh; exact Classical.byContradiction fun hn => this (.inr ⟨hh, hn⟩)
        rcases hy with ⟨y1, y2⟩ | ⟨y1, y2⟩
        · refine Int.le_of_lt (cmpL_diff (srt_ascN (nats_nodup d2)) (srt_ascN (nats_nodup d1)) (by rw [srtn_len, srtn_len]; simp) (y := (y : Int)) (mem_srt.2 (mem_nats.2 y1)) (fun hh => y2 (mem_nats.1 (mem_srt.1 hh))) fun z hz => ?_)
          rw [mem_srt, mem_srt]
          constructor
          · intro hh
            obtain ⟨k, rfl, hk⟩ := of_nats hh
            exact mem_nats.2 ((hsame k (by omega)).1 hk)
          · intro hh
            obtain ⟨k, rfl, hk⟩ := of_nats hh
            exact mem_nats.2 ((hsame k (by omega)).2 hk)
        · exfalso
          obtain ⟨f1, f2, f3, f4⟩ := hf y
          have hfm : f y ∈ ks.map f := List.mem_map.2 ⟨y, y1, rfl⟩
          rcases Nat.lt_or_ge (f y) y with h5 | h5
          · have h6 := (hsame _ h5).1 hfm
            have := inj_of_map n1 h6 y1 f1
            omega
          · have : f y = y := by omega
            rw [this] at hfm
            exact y2 hfm
      · have : srt (nats (ks.map f)) = srt (nats ks) := by
          refine asc_ext (srt_ascN (nats_nodup d2)) (srt_ascN (nats_nodup d1)) fun x => ?_
          rw [mem_srt, mem_srt]
          have hall : ∀ k, k ∈ ks.map f ↔ k ∈ ks := fun k => by
            constructor
            · intro hh; exact Classical.byContradiction fun hn => hd ⟨k, .inl ⟨hh, hn⟩⟩
            · intro hh; exact Classical.byContradiction fun hn => hd ⟨k, .inr ⟨hh, hn⟩⟩
          constructor
          · intro hh
            obtain ⟨k, rfl, hk⟩ := of_nats hh
            exact mem_nats.2 ((hall k).1 hk)
          · intro hh
            obtain ⟨k, rfl, hk⟩ := of_nats hh
            exact mem_nats.2 ((hall k).2 hk)
        rw [this, cmpL_self]
        exact Int.le_refl _
  rcases Nat.lt_or_ge g t.length with hlt | hge
  · obtain ⟨ks, u, hw, hl⟩ := hg.2.1
    obtain ⟨ks', k1, k2, k3, k4⟩ := key ks u hw hl
    exact ⟨ks', u, k1, k2, k3, .inl hlt⟩
  · obtain ⟨ks, u, hw, hl, rfl⟩ := h2 (by omega)
    obtain ⟨ks', k1, k2, k3, k4⟩ := key ks u hw hl
    exact ⟨ks', u, k1, k2, k3, .inr ⟨by omega, k4⟩⟩
end
end Go.Proofs.YtidmekdkfiljjaaGreat
namespace Go.Proofs.YtidmekdkfiljjaaGreat
open Go Go.Abs
set_option linter.unusedSimpArgs false
set_option linter.unusedVariables false
set_option maxRecDepth 20000

/-- Some walk of so many pieces, none of which begins below lo. -/
def WL (a : List (Int × Int)) (lo u L v : Nat) : Prop := ∃ ks, ks.length = L ∧ IW a u ks v ∧ ∀ k ∈ ks, lo ≤ fr a k
theorem wl_zero {a : List (Int × Int)} {lo u v : Nat} : WL a lo u 0 v ↔ u = v := by
  constructor
  · rintro ⟨ks, h1, h2, _⟩
    have : ks = [] := List.eq_nil_of_length_eq_zero h1
    subst this
    exact h2
  · intro h; exact ⟨[], rfl, h, by simp⟩
theorem wl_first {a : List (Int × Int)} {lo u v L : Nat} : WL a lo u (L + 1) v ↔ ∃ k, k < a.length ∧ fr a k = u ∧ lo ≤ u ∧ WL a lo (tt a k) L v := by
  constructor
  · rintro ⟨ks, h1, h2, h3⟩
    cases ks with
    | nil => simp at h1
    | cons k ks =>
      refine ⟨k, h2.1, h2.2.1, ?_, ks, by simpa using h1, h2.2.2, fun j hj => h3 j (by simp [hj])⟩
      rw [← h2.2.1]; exact h3 k (by simp)
  · rintro ⟨k, h1, rfl, h3, ks, h4, h5, h6⟩
    refine ⟨k :: ks, by simp [h4], ⟨h1, rfl, h5⟩, fun j hj => ?_⟩
    rcases List.mem_cons.1 hj with rfl | hj
    · exact h3
    · exact h6 j hj
/-- The least number of which something holds, if there is one. -/
noncomputable def lst (p : Nat → Prop) : Option Nat := by
  classical exact if h : ∃ n, p n then some (Classical.choose (least_of h)) else none
theorem lst_none {p : Nat → Prop} (h : ∀ n, ¬ p n) : lst p = none := by
  unfold lst
  rw [dif_neg]
  rintro ⟨n, hn⟩
  exact h n hn
theorem lst_some {p : Nat → Prop} {n : Nat} (h1 : p n) (h2 : ∀ m, m < n → ¬ p m) : lst p = some n := by
  unfold lst
  have h : ∃ n, p n := ⟨n, h1⟩
  rw [dif_pos h]
  obtain ⟨k1, k2⟩ := Classical.choose_spec (least_of h)
  congr 1
  rcases Nat.lt_trichotomy (Classical.choose (least_of h)) n with h3 | h3 | h3
  · exact absurd k1 (h2 _ h3)
  · exact h3
  · exact absurd h1 (k2 _ h3)
theorem lst_spec (p : Nat → Prop) : (lst p = none ∧ ∀ n, ¬ p n) ∨ ∃ n, lst p = some n ∧ p n ∧ ∀ m, m < n → ¬ p m := by
  rcases Classical.em (∃ n, p n) with h | h
  · obtain ⟨n, h1, h2⟩ := least_of h
    exact .inr ⟨n, lst_some h1 h2, h1, h2⟩
  · have h' : ∀ n, ¬ p n := fun n hn => h ⟨n, hn⟩
    exact .inl ⟨lst_none h', h'⟩
/-- The number of pieces of a shortest walk, or -1. -/
noncomputable def farZ (a : List (Int × Int)) (u v : Nat) : Int := match lst (fun L => WL a 0 u L v) with
  | some L => L
  | none => -1
theorem farZ_spec (a : List (Int × Int)) (u v : Nat) : (farZ a u v = -1 ∧ ∀ L, ¬ WL a 0 u L v) ∨ ∃ L : Nat, farZ a u v = L ∧ WL a 0 u L v ∧ ∀ m, m < L → ¬ WL a 0 u m v := by
  unfold farZ
  rcases lst_spec (fun L => WL a 0 u L v) with ⟨h1, h2⟩ | ⟨n, h1, h2, h3⟩
  · rw [h1]; exact .inl ⟨rfl, h2⟩
  · rw [h1]; exact .inr ⟨n, rfl, h2, h3⟩
theorem getD_setI {d : List Int} {x : Nat} (hx : x < d.length) (v : Int) (y : Nat) : (d.set x v).getD y 0 = if x = y then v else d.getD y 0 := by
  simp only [List.getD_eq_getElem?_getD, List.getElem?_set]
  by_cases h : x = y
  · subst h; simp [hx]
  · simp [h]
/-! The number of pieces of a shortest cycle. -/
/-! Ways home. -/
def lev1 (a : List (Int × Int)) (v x L : Nat) : Prop := 1 ≤ L ∧ WL a v x L v ∧ ∀ m, 1 ≤ m → m < L → ¬ WL a v x m v
theorem lev1_uni {a : List (Int × Int)} {v x L M : Nat} (h : lev1 a v x L) (k : lev1 a v x M) : L = M := by
  rcases Nat.lt_trichotomy L M with h1 | h1 | h1
  · exact absurd h.2.1 (k.2.2 _ h.1 h1)
  · exact h1
  · exact absurd k.2.1 (h.2.2 _ k.1 h1)
noncomputable def hmN (a : List (Int × Int)) (v x : Nat) : Nat := (lst (fun L => 1 ≤ L ∧ WL a v x L v)).getD 0
theorem hmN_spec (a : List (Int × Int)) (v x : Nat) : (hmN a v x = 0 ∧ ∀ L, 1 ≤ L → ¬ WL a v x L v) ∨ lev1 a v x (hmN a v x) := by
  unfold hmN
  rcases lst_spec (fun L => 1 ≤ L ∧ WL a v x L v) with ⟨h1, h2⟩ | ⟨n, h1, h2, h3⟩
  · rw [h1]; exact .inl ⟨rfl, fun L hL hw => h2 L ⟨hL, hw⟩⟩
  · rw [h1]; exact .inr ⟨h2.1, h2.2, fun m hm hlt hw => h3 m hlt ⟨hm, hw⟩⟩
theorem hmN_of {a : List (Int × Int)} {v x L : Nat} (h : lev1 a v x L) : hmN a v x = L := by
  rcases hmN_spec a v x with ⟨h1, h2⟩ | h1
  · exact absurd h.2.1 (h2 L h.1)
  · exact lev1_uni h1 h
theorem lev1_down {a : List (Int × Int)} {v x L : Nat} (h : lev1 a v x (L + 1)) (hL : 1 ≤ L) : ∃ j, j < a.length ∧ fr a j = x ∧ v ≤ x ∧ tt a j ≠ v ∧ lev1 a v (tt a j) L := by
  obtain ⟨j, h1, h2, h3, h4⟩ := wl_first.1 h.2.1
  refine ⟨j, h1, h2, h3, fun hh => ?_, hL, h4, fun m hm hlt hw => ?_⟩
  · exact h.2.2 1 (Nat.le_refl _) (by omega) (wl_first.2 ⟨j, h1, h2, h3, wl_zero.2 hh⟩)
  · exact h.2.2 (m + 1) (by omega) (by omega) (wl_first.2 ⟨j, h1, h2, h3, hw⟩)
theorem lev1_at {a : List (Int × Int)} {v : Nat} : ∀ (d : Nat) {x m : Nat}, 1 ≤ m → 1 ≤ d → lev1 a v x (m + d) → ∃ y, y ≠ v ∧ lev1 a v y m := by
  intro d
  induction d with
  | zero => intro x m _ h; omega
  | succ d ih =>
    intro x m hm _ h
    obtain ⟨j, _, _, _, h4, h5⟩ := lev1_down (L := m + d) h (by omega)
    rcases Nat.eq_zero_or_pos d with rfl | hd
    · exact ⟨_, h4, h5⟩
    · exact ih hm hd h5
/-- The vertices found last. -/
def Rch (a : List (Int × Int)) (v s : Nat) (R : List Int) : Prop := ∀ x : Int, x ∈ R ↔ ∃ y : Nat, x = y ∧ ((s = 1 ∧ y = v) ∨ (1 < s ∧ y ≠ v ∧ lev1 a v y (s - 1)))
def HmI (n : Nat) (a : List (Int × Int)) (v s i : Nat) (R : List Int) (d : List Int) (X : List Int) : Prop := d.length = n ∧ (∀ x, x < n →
  (d.getD x 0 = 0 ∧ (∀ L, 1 ≤ L → L < s → ¬ WL a v x L v) ∧ ∀ j, j < i → j < a.length → fr a j = x → v ≤ x → (tt a j : Int) ∉ R) ∨ ∃ L : Nat, L ≤ s ∧ d.getD x 0 = L ∧ lev1 a v x L) ∧
  ∀ x : Int, x ∈ X ↔ ∃ y : Nat, x = y ∧ y < n ∧ y ≠ v ∧ d.getD y 0 = s
def HmT (n : Nat) (a : List (Int × Int)) (v s : Nat) (d : List Int) : Prop := d.length = n ∧ ∀ x, x < n →
  (d.getD x 0 = 0 ∧ ∀ L, 1 ≤ L → L < s → ¬ WL a v x L v) ∨ ∃ L : Nat, L < s ∧ d.getD x 0 = L ∧ lev1 a v x L
theorem hmT_one (n : Nat) (a : List (Int × Int)) (v : Nat) : HmT n a v 1 (List.replicate n 0) :=
  ⟨by simp, fun x hx => .inl ⟨by simp [List.getD, hx], fun L h1 h2 => by omega⟩⟩
theorem rch_one (a : List (Int × Int)) (v : Nat) : Rch a v 1 [(v : Int)] := fun x => by
  rw [List.mem_singleton]
  constructor
  · rintro rfl; exact ⟨v, rfl, .inl ⟨rfl, rfl⟩⟩
  · rintro ⟨y, rfl, ⟨_, rfl⟩ | ⟨h, _⟩⟩
    · rfl
    · omega
theorem hmI_zero {n : Nat} {a : List (Int × Int)} {v s : Nat} (hs : 1 ≤ s) {R d : List Int} (h : HmT n a v s d) : HmI n a v s 0 R d [] := by
  refine ⟨h.1, fun x hx => ?_, fun x => ?_⟩
  · rcases h.2 x hx with ⟨h1, h2⟩ | ⟨L, h1, h2, h3⟩
    · exact .inl ⟨h1, h2, fun j hj => absurd hj (Nat.not_lt_zero _)⟩
    · exact .inr ⟨L, by omega, h2, h3⟩
  · constructor
    · intro hh; cases hh
    · rintro ⟨y, rfl, h1, h2, h3⟩
      exfalso
      rcases h.2 y h1 with ⟨k1, k2⟩ | ⟨L, k1, k2, k3⟩ <;> omega
theorem rch_wl {a : List (Int × Int)} {v s : Nat} {R : List Int} (hR : Rch a v s R) (hs : 1 ≤ s) {x : Nat} (hno : ∀ L, 1 ≤ L → L < s → ¬ WL a v x L v) : WL a v x s v ↔ ∃ j, j < a.length ∧ fr a j = x ∧ v ≤ x ∧ (tt a j : Int) ∈ R := by
  obtain ⟨m, rfl⟩ : ∃ m, s = m + 1 := ⟨s - 1, by omega⟩
  rw [wl_first]
  constructor
  · rintro ⟨j, h1, h2, h3, h4⟩
    refine ⟨j, h1, h2, h3, (hR _).2 ⟨_, rfl, ?_⟩⟩
    rcases Nat.eq_zero_or_pos m with rfl | hm
    · exact .inl ⟨rfl, wl_zero.1 h4⟩
    · refine .inr ⟨by omega, fun hh => ?_, hm, h4, fun q h5 h6 h7 => ?_⟩
      · exact hno 1 (Nat.le_refl _) (by omega) (wl_first.2 ⟨j, h1, h2, h3, wl_zero.2 hh⟩)
      · exact hno (q + 1) (by omega) (by omega) (wl_first.2 ⟨j, h1, h2, h3, h7⟩)
  · rintro ⟨j, h1, h2, h3, h4⟩
    refine ⟨j, h1, h2, h3, ?_⟩
    obtain ⟨y, e, h5⟩ := (hR _).1 h4
    have e : tt a j = y := by omega
    subst e
    rcases h5 with ⟨h6, h7⟩ | ⟨h6, h7, h8⟩
    · have : m = 0 := by omega
      subst this
      exact wl_zero.2 h7
    · exact h8.2.1
theorem hmI_end {n : Nat} {a : List (Int × Int)} {v s : Nat} (hs : 1 ≤ s) (ha : ∀ k, k < a.length → fr a k < n) (hv : v < n) {R d X : List Int} (hR : Rch a v s R) (h : HmI n a v s a.length R d X) : HmT n a v (s + 1) d ∧ Rch a v (s + 1) X := by
  have hT : HmT n a v (s + 1) d := by
    refine ⟨h.1, fun x hx => ?_⟩
    rcases h.2.1 x hx with ⟨h1, h2, h3⟩ | ⟨L, h1, h2, h3⟩
    · refine .inl ⟨h1, fun L k1 k2 hw => ?_⟩
      rcases Nat.lt_or_ge L s with h4 | h4
      · exact h2 L k1 h4 hw
      · have : L = s := by omega
        subst this
        obtain ⟨j, j1, j2, j3, j4⟩ := (rch_wl hR hs h2).1 hw
        exact h3 j j1 j1 j2 j3 j4
    · exact .inr ⟨L, by omega, h2, h3⟩
  refine ⟨hT, fun x => ?_⟩
  rw [h.2.2 x]
  constructor
  · rintro ⟨y, rfl, h1, h2, h3⟩
    refine ⟨y, rfl, .inr ⟨by omega, h2, ?_⟩⟩
    rcases hT.2 y h1 with ⟨k1, k2⟩ | ⟨L, k1, k2, k3⟩
    · omega
    · have : L = s := by omega
      rw [← this] ; exact k3
  · rintro ⟨y, rfl, ⟨h1, _⟩ | ⟨h1, h2, h3⟩⟩
    · omega
    · rw [Nat.add_sub_cancel] at h3
      have hy : y < n := by
        obtain ⟨m, rfl⟩ : ∃ m, s = m + 1 := ⟨s - 1, by omega⟩
        obtain ⟨j, j1, j2, _⟩ := wl_first.1 h3.2.1
        rw [← j2]; exact ha j j1
      refine ⟨y, rfl, hy, h2, ?_⟩
      rcases hT.2 y hy with ⟨k1, k2⟩ | ⟨L, k1, k2, k3⟩
      · exact absurd h3.2.1 (k2 s hs (by omega))
      · rw [k2, lev1_uni k3 h3]
theorem hmI_no {n : Nat} {a : List (Int × Int)} {v s i : Nat} {R d X : List Int} (h : HmI n a v s i R d X) (hi : ¬ (v ≤ fr a i ∧ d.getD (fr a i) 0 = 0 ∧ (tt a i : Int) ∈ R)) : HmI n a v s (i + 1) R d X := by
  refine ⟨h.1, fun x hx => ?_, h.2.2⟩
  rcases h.2.1 x hx with ⟨h1, h2, h3⟩ | hB
  · refine .inl ⟨h1, h2, fun j hj hj2 hjx hvx hm => ?_⟩
    rcases lt_succ_cases hj with h4 | rfl
    · exact h3 j h4 hj2 hjx hvx hm
    · exact hi ⟨by rw [hjx]; exact hvx, by rw [hjx]; exact h1, hm⟩
  · exact .inr hB
theorem hmI_yes {n : Nat} {a : List (Int × Int)} {v s i : Nat} (hs : 1 ≤ s) {R d X : List Int} (hR : Rch a v s R) (h : HmI n a v s i R d X) (h1 : v ≤ fr a i) (h2 : d.getD (fr a i) 0 = 0) (h3 : (tt a i : Int) ∈ R) (hf : fr a i < n) (hi : i < a.length) :
    HmI n a v s (i + 1) R (d.set (fr a i) (s : Int)) (if fr a i = v then X else X ++ [(fr a i : Int)]) := by
  have hset : ∀ x, (d.set (fr a i) (s : Int)).getD x 0 = if fr a i = x then (s : Int) else d.getD x 0 := fun x => getD_setI (by rw [h.1]; exact hf) _ x
  refine ⟨by simpa using h.1, fun x hx => ?_, fun x => ?_⟩
  · rw [hset]
    by_cases hxf : fr a i = x
    · subst hxf
      rw [if_pos rfl]
      rcases h.2.1 _ hx with ⟨k1, k2, k3⟩ | ⟨L, k1, k2, k3⟩
      · exact .inr ⟨s, Nat.le_refl _, rfl, hs, (rch_wl hR hs k2).2 ⟨i, hi, rfl, h1, h3⟩, k2⟩
      · have := k3.1; omega
    · rw [if_neg hxf]
      rcases h.2.1 x hx with ⟨k1, k2, k3⟩ | hB
      · refine .inl ⟨k1, k2, fun j hj hj2 hjx hvx hm => ?_⟩
        rcases lt_succ_cases hj with h4 | rfl
        · exact k3 j h4 hj2 hjx hvx hm
        · exact hxf hjx
      · exact .inr hB
  · have hX := h.2.2 x
    by_cases hfv : fr a i = v
    · rw [if_pos hfv, hX]
      constructor
      · rintro ⟨y, rfl, k1, k2, k3⟩
        exact ⟨y, rfl, k1, k2, by rw [hset, if_neg (fun hh => k2 (by omega))]; exact k3⟩
      · rintro ⟨y, rfl, k1, k2, k3⟩
        rw [hset, if_neg (fun hh => k2 (by omega))] at k3
        exact ⟨y, rfl, k1, k2, k3⟩
    · rw [if_neg hfv, List.mem_append, List.mem_singleton, hX]
      constructor
      · rintro (⟨y, rfl, k1, k2, k3⟩ | rfl)
        · refine ⟨y, rfl, k1, k2, ?_⟩
          rw [hset, if_neg (fun hh => by rw [hh] at h2; omega)]; exact k3
        · exact ⟨_, rfl, hf, hfv, by rw [hset, if_pos rfl]⟩
      · rintro ⟨y, rfl, k1, k2, k3⟩
        rw [hset] at k3
        by_cases hy : fr a i = y
        · exact .inr (by rw [hy])
        · rw [if_neg hy] at k3
          exact .inl ⟨y, rfl, k1, k2, k3⟩
/-- How many rounds there are. -/
theorem rch_le {n : Nat} {a : List (Int × Int)} {v s : Nat} (ha : ∀ k, k < a.length → fr a k < n) (hv : v < n) {R : List Int} (hR : Rch a v s R) (hne : R ≠ []) : s ≤ n := by
  obtain ⟨x, hx⟩ := List.exists_mem_of_ne_nil R hne
  obtain ⟨y, rfl, ⟨h1, h2⟩ | ⟨h1, h2, h3⟩⟩ := (hR x).1 hx
  · omega
  · obtain ⟨ks, e1, e2, e3⟩ := h3.2.1
    obtain ⟨q, q1, q2, q3, q4⟩ := iw_short ha hv e2
    have hq : 1 ≤ q.length := by
      cases q with
      | nil => exact absurd q4 h2
      | cons => simp
    rcases Nat.lt_or_ge q.length (s - 1) with h4 | h4
    · exact absurd ⟨q, rfl, q4, fun k hk => e3 k (q3 k hk)⟩ (h3.2.2 q.length hq h4)
    · omega
theorem hmT_end {n : Nat} {a : List (Int × Int)} {v s : Nat} (hs : 1 ≤ s) {R d : List Int} (hR : Rch a v s R) (h : HmT n a v s d) (hne : R = []) {x : Nat} (hx : x < n) : d.getD x 0 = hmN a v x := by
  rcases h.2 x hx with ⟨h1, h2⟩ | ⟨L, h1, h2, h3⟩
  · rcases hmN_spec a v x with ⟨k1, _⟩ | k1
    · rw [h1, k1]; rfl
    · exfalso
      subst hne
      have hs1 : s ≠ 1 := fun hh => by
        have := (hR (v : Int)).2 ⟨v, rfl, .inl ⟨hh, rfl⟩⟩
        cases this
      have hge : s ≤ hmN a v x := by
        rcases Nat.lt_or_ge (hmN a v x) s with h4 | h4
        · exact absurd k1.2.1 (h2 _ k1.1 h4)
        · exact h4
      obtain ⟨y, y1, y2⟩ := lev1_at (a := a) (v := v) (hmN a v x - (s - 1)) (x := x) (m := s - 1) (by omega) (by omega) (by rw [show s - 1 + (hmN a v x - (s - 1)) = hmN a v x by omega]; exact k1)
      have := (hR (y : Int)).2 ⟨y, rfl, .inr ⟨by omega, y1, y2⟩⟩
      cases this
  · rw [h2, hmN_of h3]
end Go.Proofs.YtidmekdkfiljjaaGreat
namespace Go.Proofs.YtidmekdkfiljjaaGreat
open Go Go.Abs
set_option linter.unusedSimpArgs false
set_option linter.unusedVariables false
set_option maxRecDepth 20000

/-- One set is at least as good as another one; nothing is the worst. -/
def le2 : Option (List Int) → Option (List Int) → Prop
  | _, none => True
  | none, some _ => False
  | some s, some t => s.length < t.length ∨ (s.length = t.length ∧ cmpL s t ≤ 0)
theorem le2_refl (x : Option (List Int)) : le2 x x := by
  cases x with
  | none => trivial
  | some s => exact .inr ⟨rfl, by rw [cmpL_self]; exact Int.le_refl _⟩
theorem le2_trans {x y z : Option (List Int)} (h : le2 x y) (k : le2 y z) : le2 x z := by
  cases z with
  | none => cases x <;> trivial
  | some u =>
    cases y with
    | none => exact k.elim
    | some t =>
      cases x with
      | none => exact h.elim
      | some s =>
        rcases h with h | ⟨h1, h2⟩ <;> rcases k with k | ⟨k1, k2⟩
        · exact .inl (by omega)
        · exact .inl (by omega)
        · exact .inl (by omega)
        · exact .inr ⟨by omega, cmpL_trans h2 k2⟩
/-- The better one of two. -/
def upd (b : Option (List Int)) (s : List Int) : Option (List Int) := match b with
  | none => some s
  | some t => if s.length < t.length ∨ (s.length = t.length ∧ cmpL s t < 0) then some s else some t
theorem upd_le (b : Option (List Int)) (s : List Int) : le2 (upd b s) b ∧ le2 (upd b s) (some s) := by
  cases b with
  | none => exact ⟨trivial, le2_refl _⟩
  | some t =>
    unfold upd
    by_cases h : s.length < t.length ∨ (s.length = t.length ∧ cmpL s t < 0)
    · simp only [if_pos h]
      refine ⟨?_, le2_refl _⟩
      rcases h with h | ⟨h1, h2⟩
      · exact .inl h
      · exact .inr ⟨h1, Int.le_of_lt h2⟩
    · simp only [if_neg h]
      refine ⟨le2_refl _, ?_⟩
      rcases Nat.lt_trichotomy t.length s.length with h1 | h1 | h1
      · exact .inl h1
      · refine .inr ⟨h1, ?_⟩
        have h2 : ¬ cmpL s t < 0 := fun hh => h (.inr ⟨h1.symm, hh⟩)
        have := cmpL_swap s t
        omega
      · exact absurd (.inl h1) h
theorem upd_or (b : Option (List Int)) (s : List Int) : upd b s = b ∨ upd b s = some s := by
  cases b with
  | none => exact .inr rfl
  | some t =>
    unfold upd
    by_cases h : s.length < t.length ∨ (s.length = t.length ∧ cmpL s t < 0)
    · right; show (if _ then _ else _) = _; rw [if_pos h]
    · left; show (if _ then _ else _) = _; rw [if_neg h]

/-- Whether the path goes on by piece k. -/
def tk (a : List (Int × Int)) (v : Nat) (H : Nat → Nat) (at_ left k : Nat) : Bool :=
  decide (fr a k = at_) && decide (v ≤ tt a k) && (List.range k).all (fun j => !(decide (fr a j = at_) && decide (tt a j = tt a k))) &&
    (if left = 1 then decide (tt a k = v) else !decide (tt a k = v) && decide (H (tt a k) = left - 1))
theorem tk_iff {a : List (Int × Int)} {v : Nat} {H : Nat → Nat} {at_ left k : Nat} : tk a v H at_ left k = true ↔ fr a k = at_ ∧ v ≤ tt a k ∧ (∀ j, j < k → ¬ (fr a j = at_ ∧ tt a j = tt a k)) ∧ (left = 1 → tt a k = v) ∧ (left ≠ 1 → tt a k ≠ v ∧ H (tt a k) = left - 1) := by
  unfold tk
  rw [Bool.and_eq_true, Bool.and_eq_true, Bool.and_eq_true, decide_eq_true_eq, decide_eq_true_eq, List.all_eq_true]
  constructor
  · rintro ⟨⟨⟨h1, h2⟩, h3⟩, h4⟩
    refine ⟨h1, h2, fun j hj ⟨k1, k2⟩ => ?_, fun hl => ?_, fun hl => ?_⟩
    · have := h3 j (List.mem_range.2 hj)
      rw [decide_eq_true k1, decide_eq_true k2] at this
      cases this
    · rw [if_pos hl] at h4; exact of_decide_eq_true h4
    · rw [if_neg hl, Bool.and_eq_true, Bool.not_eq_true', decide_eq_false_iff_not, decide_eq_true_eq] at h4; exact h4
  · rintro ⟨h1, h2, h3, h4, h5⟩
    refine ⟨⟨⟨h1, h2⟩, fun j hj => ?_⟩, ?_⟩
    · have := h3 j (List.mem_range.1 hj)
      by_cases k1 : fr a j = at_
      · have k2 : ¬ tt a j = tt a k := fun hh => this ⟨k1, hh⟩
        rw [decide_eq_false k2, Bool.and_false]; rfl
      · rw [decide_eq_false k1]; rfl
    · by_cases hl : left = 1
      · rw [if_pos hl]; exact decide_eq_true (h4 hl)
      · rw [if_neg hl, decide_eq_false (h5 hl).1, decide_eq_true (h5 hl).2]; rfl
/-- What is best after all ways on were tried. -/
def extF (a : List (Int × Int)) (v : Nat) (H : Nat → Nat) : Nat → Nat → List Int → Option (List Int) → Option (List Int)
  | 0, _, path, best => upd best (srt path)
  | left + 1, at_, path, best => (List.range a.length).foldl (fun b k => if tk a v H at_ (left + 1) k then extF a v H left (tt a k) (path ++ [(k : Int)]) b else b) best
/-- The same, after the first i pieces. -/
def extK (a : List (Int × Int)) (v : Nat) (H : Nat → Nat) (left at_ : Nat) (path : List Int) (best : Option (List Int)) (i : Nat) : Option (List Int) :=
  (List.range i).foldl (fun b k => if tk a v H at_ (left + 1) k then extF a v H left (tt a k) (path ++ [(k : Int)]) b else b) best
theorem extK_succ (a : List (Int × Int)) (v : Nat) (H : Nat → Nat) (left at_ : Nat) (path : List Int) (best : Option (List Int)) (i : Nat) :
    extK a v H left at_ path best (i + 1) = if tk a v H at_ (left + 1) i then extF a v H left (tt a i) (path ++ [(i : Int)]) (extK a v H left at_ path best i) else extK a v H left at_ path best i := by
  unfold extK
  rw [List.range_succ, List.foldl_append]
  rfl
theorem extF_le (a : List (Int × Int)) (v : Nat) (H : Nat → Nat) : ∀ (left at_ : Nat) (path : List Int) (best : Option (List Int)), le2 (extF a v H left at_ path best) best := by
  intro left
  induction left with
  | zero => intro at_ path best; exact (upd_le _ _).1
  | succ left ih =>
    intro at_ path best
    show le2 (extK a v H left at_ path best a.length) best
    have : ∀ i, le2 (extK a v H left at_ path best i) best := by
      intro i
      induction i with
      | zero => exact le2_refl _
      | succ i ihi =>
        rw [extK_succ]
        split
        · exact le2_trans (ih _ _ _) ihi
        · exact ihi
    exact this _
theorem extK_le (a : List (Int × Int)) (v : Nat) (H : Nat → Nat) (left at_ : Nat) (path : List Int) (best : Option (List Int)) (i d : Nat) : le2 (extK a v H left at_ path best (i + d)) (extK a v H left at_ path best i) := by
  induction d with
  | zero => exact le2_refl _
  | succ d ih =>
    rw [show i + (d + 1) = i + d + 1 by omega, extK_succ]
    split
    · exact le2_trans (extF_le _ _ _ _ _ _ _) ih
    · exact ih
/-- A way that is tried. -/
def Chn (a : List (Int × Int)) (v : Nat) (H : Nat → Nat) : Nat → Nat → List Nat → Prop
  | 0, _, ks => ks = []
  | _ + 1, _, [] => False
  | left + 1, at_, k :: ks => k < a.length ∧ tk a v H at_ (left + 1) k = true ∧ Chn a v H left (tt a k) ks
theorem extF_opt {a : List (Int × Int)} {v : Nat} {H : Nat → Nat} : ∀ {left at_ : Nat} {ks : List Nat}, Chn a v H left at_ ks → ∀ (path : List Int) (best : Option (List Int)), le2 (extF a v H left at_ path best) (some (srt (path ++ nats ks))) := by
  intro left
  induction left with
  | zero => intro at_ ks h path best; cases h; simp only [nats, List.map_nil, List.append_nil]; exact (upd_le _ _).2
  | succ left ih =>
    intro at_ ks h path best
    cases ks with
    | nil => exact h.elim
    | cons k ks =>
      obtain ⟨h1, h2, h3⟩ := h
      show le2 (extK a v H left at_ path best a.length) _
      have h4 := extK_le a v H left at_ path best (k + 1) (a.length - (k + 1))
      rw [show k + 1 + (a.length - (k + 1)) = a.length by omega] at h4
      refine le2_trans h4 ?_
      rw [extK_succ, if_pos h2]
      have := ih h3 (path ++ [(k : Int)]) (extK a v H left at_ path best k)
      rw [List.append_assoc] at this
      exact this
/-- All that is found is contradictory. -/
def AllGood (n : Nat) (a : List (Int × Int)) (b : Option (List Int)) : Prop := ∀ s, b = some s → Good n a s
theorem extF_good {n : Nat} {a : List (Int × Int)} (he : Ev n a) {v K : Nat} {H : Nat → Nat} (hK : 0 < K) : ∀ (left at_ : Nat) (ks : List Nat) (best : Option (List Int)), AllGood n a best → IW a v ks at_ → ks.Nodup → (∀ k ∈ ks, left < H (fr a k)) → ks.length + left = K → (0 < left → H at_ = left) → (left = 0 → at_ = v) →
    AllGood n a (extF a v H left at_ (nats ks) best) := by
  intro left
  induction left with
  | zero =>
    intro at_ ks best hb hw hn h1 h2 h3 h4
    have := h4 rfl
    subst this
    rcases upd_or best (srt (nats ks)) with e | e
    · show AllGood n a (upd best (srt (nats ks))); rw [e]; exact hb
    · show AllGood n a (upd best (srt (nats ks)))
      rw [e]
      intro s hs
      cases hs
      exact good_of he hw (fun hh => by subst hh; simp at h2; omega) hn
  | succ left ih =>
    intro at_ ks best hb hw hn h1 h2 h3 h4
    show AllGood n a (extK a v H left at_ (nats ks) best a.length)
    have : ∀ i, i ≤ a.length → AllGood n a (extK a v H left at_ (nats ks) best i) := by
      intro i
      induction i with
      | zero => intro _; exact hb
      | succ i ihi =>
        intro hi
        have ihi := ihi (by omega)
        rw [extK_succ]
        split
        · rename_i ht
          obtain ⟨t1, t2, t3, t4, t5⟩ := tk_iff.1 ht
          have e : nats ks ++ [(i : Int)] = nats (ks ++ [i]) := by rw [nats_append]; rfl
          rw [e]
          refine ih (tt a i) (ks ++ [i]) _ ihi (iw_append hw ⟨by omega, t1, rfl⟩) ?_ ?_ (by simp; omega) ?_ ?_
          · rw [List.nodup_append]
            refine ⟨hn, by simp, fun x hx y hy => ?_⟩
            rw [List.mem_singleton] at hy
            subst hy
            intro hxy
            subst hxy
            have := h1 x hx
            rw [t1, h3 (by omega)] at this
            omega
          · intro k hk
            rw [List.mem_append, List.mem_singleton] at hk
            rcases hk with hk | rfl
            · have := h1 k hk; omega
            · rw [t1, h3 (by omega)]; omega
          · intro hl
            have := (t5 (by omega)).2
            omega
          · intro hl
            exact t4 (by omega)
        · exact ihi
    exact this _ (Nat.le_refl _)

/-- What is best after the vertices below i. -/
noncomputable def smF (a : List (Int × Int)) : Nat → Option (List Int)
  | 0 => none
  | i + 1 => if 0 < hmN a i i ∧ (∀ s, smF a i = some s → hmN a i i ≤ s.length) then extF a i (hmN a i) (hmN a i i) i [] (smF a i) else smF a i
section
variable {n : Nat} {a : List (Int × Int)} (he : Ev n a)
include he
theorem smF_good : ∀ i, i ≤ n → AllGood n a (smF a i) := by
  intro i
  induction i with
  | zero => intro _ s hs; cases hs
  | succ i ih =>
    intro hi
    have ih := ih (by omega)
    unfold smF
    split
    · rename_i hc
      have := extF_good he hc.1 (H := hmN a i) (v := i) (hmN a i i) i [] (smF a i) ih rfl (by simp) (by simp) (by simp) (fun _ => rfl) (fun _ => rfl)
      exact this
    · exact ih
omit he in
theorem smF_le (i d : Nat) : le2 (smF a (i + d)) (smF a i) := by
  induction d with
  | zero => exact le2_refl _
  | succ d ih =>
    rw [show i + (d + 1) = i + d + 1 by omega, smF]
    split
    · exact le2_trans (extF_le _ _ _ _ _ _ _) ih
    · exact ih
omit he in
/-- The rest of a shortest cycle of first pieces is tried. -/
theorem chn_rest {g v : Nat} (hg : Gi a g) : ∀ (q p : List Nat) (x : Nat), IW a v p x → IW a x q v → (p ++ q).length = g → (∀ k ∈ p ++ q, v ≤ fr a k ∧ isF a k) → p ++ q ≠ [] → Chn a v (hmN a v) q.length x q := by
  intro q
  induction q with
  | nil => intro p x _ _ _ _ _; rfl
  | cons k q ih =>
    intro p x h1 h2 h3 h4 h5
    obtain ⟨k1, k2, k3⟩ := h2
    have hk := h4 k (by simp)
    have hnext : p ++ k :: q = (p ++ [k]) ++ q := by simp
    refine ⟨k1, tk_iff.2 ⟨k2, ?_, ?_, ?_, ?_⟩, ih (p ++ [k]) (tt a k) (iw_append h1 ⟨k1, k2, rfl⟩) k3 (by rw [← hnext]; exact h3) (fun j hj => h4 j (by rw [hnext]; exact hj)) (by simp)⟩
    · cases q with
      | nil => have := k3; rw [show tt a k = v from this]; exact Nat.le_refl _
      | cons j q =>
        have := (h4 j (by simp)).1
        rw [k3.2.1] at this
        exact this
    · intro j hj ⟨e1, e2⟩
      exact hk.2 j hj ⟨by rw [e1, k2], e2⟩
    · intro hl
      have : q = [] := List.eq_nil_of_length_eq_zero (by omega)
      subst this
      exact k3
    · intro hl
      have hq : q ≠ [] := fun hh => hl (by rw [hh]; rfl)
      have hqp := List.length_pos_iff.2 hq
      have hcl : ∀ M, WL a v (tt a k) M v → q.length ≤ M := fun M hM => by
        obtain ⟨ks, e1, e2, _⟩ := hM
        have := hg.2.2 (p ++ k :: ks) v (by simp) (iw_append h1 ⟨k1, k2, e2⟩)
        simp only [List.length_append, List.length_cons] at this h3
        omega
      refine ⟨fun hh => ?_, ?_⟩
      · have := hcl 0 (wl_zero.2 hh)
        omega
      · rw [Nat.add_sub_cancel]
        refine hmN_of ⟨hqp, ⟨q, rfl, k3, fun j hj => (h4 j (by simp [hj])).1⟩, fun m hm hlt hw => ?_⟩
        have := hcl m hw
        omega
theorem smF_opt {t : List Int} (h : Good n a t) : le2 (smF a n) (some t) := by
  obtain ⟨g, hg⟩ := good_gi he h
  obtain ⟨ks, u, h1, h2, h3, h4⟩ := good_first he hg h
  have hg0 := hg.1
  have hne : ks ≠ [] := fun hh => by subst hh; simp at h2; omega
  -- the least vertex
  obtain ⟨v, ⟨k, hk, hkv⟩, hmin⟩ := least_of (p := fun v => ∃ k ∈ ks, fr a k = v) (by
    cases ks with
    | nil => exact absurd rfl hne
    | cons k ks => exact ⟨_, k, by simp, rfl⟩)
  have hmin : ∀ j ∈ ks, v ≤ fr a j := fun j hj => by
    rcases Nat.lt_or_ge (fr a j) v with h5 | h5
    · exact absurd ⟨j, hj, rfl⟩ (hmin _ h5)
    · exact h5
  obtain ⟨q, r1, r2⟩ := iw_rot h1 hk
  have hw : IW a v (k :: q) v := ⟨iw_lt h1 k hk, hkv, by rw [← hkv]; exact r1⟩
  have hlen : (k :: q).length = g := by rw [r2.length_eq]; exact h2
  have hall : ∀ j ∈ k :: q, v ≤ fr a j ∧ isF a j := fun j hj => by
    have := r2.mem_iff.1 hj
    exact ⟨hmin j this, h3 j this⟩
  have hvn : v < n := by rw [← hkv]; exact (ev_k he (iw_lt h1 k hk)).2.1
  have hH : hmN a v v = g := hmN_of ⟨hg0, ⟨k :: q, hlen, hw, fun j hj => (hall j hj).1⟩, fun m hm hlt hw2 => by
    obtain ⟨ks2, e1, e2, _⟩ := hw2
    have := hg.2.2 ks2 v (fun hh => by subst hh; simp at e1; omega) e2
    omega⟩
  have hchn := chn_rest hg (k :: q) [] v rfl hw (by simpa using hlen) (by simpa using hall) (by simp)
  have hsm : smF a (v + 1) = extF a v (hmN a v) (hmN a v v) v [] (smF a v) := by
    show (if _ then _ else _) = _
    rw [if_pos]
    refine ⟨by omega, fun s hs => ?_⟩
    rw [hH]
    exact (good_ge he hg (smF_good he v (by omega) s hs)).1
  have h5 := extF_opt hchn [] (smF a v)
  rw [hlen, ← hH, ← hsm, List.nil_append] at h5
  have h6 := smF_le (a := a) (v + 1) (n - (v + 1))
  rw [show v + 1 + (n - (v + 1)) = n by omega] at h6
  refine le2_trans h6 (le2_trans h5 ?_)
  have e : srt (nats (k :: q)) = srt (nats ks) := by
    have hn1 := nodup_of_map (gi_nodup hg hw hlen)
    have hn2 := nodup_of_map (gi_nodup hg h1 h2)
    refine asc_ext (srt_ascN (nats_nodup hn1)) (srt_ascN (nats_nodup hn2)) fun x => ?_
    rw [mem_srt, mem_srt]
    constructor
    · intro hx
      obtain ⟨j, rfl, hj⟩ := of_nats hx
      exact mem_nats.2 (r2.mem_iff.1 hj)
    · intro hx
      obtain ⟨j, rfl, hj⟩ := of_nats hx
      exact mem_nats.2 (r2.mem_iff.2 hj)
  rw [e]
  have hl := srtn_len ks
  rcases h4 with h4 | ⟨h4, h7⟩
  · exact .inl (by omega)
  · exact .inr ⟨by omega, h7⟩
/-- The search finds the first of the smallest ones. -/
theorem smF_fst {s : List Int} (h : smF a n = some s) : Fst n a s := by
  refine ⟨smF_good he n (Nat.le_refl _) s h, fun t ht => ?_⟩
  have := smF_opt he ht
  rw [h] at this
  exact this
theorem smF_none (h : smF a n = none) : ∀ t, ¬ Good n a t := fun t ht => by
  have := smF_opt he ht
  rw [h] at this
  exact this
end

/-! The reference's search. -/
section
variable {n : Nat} {a : List (Int × Int)} (he : Ev n a)
include he
end
end Go.Proofs.YtidmekdkfiljjaaGreat
namespace Go.Proofs.YtidmekdkfiljjaaGreat
open Go Go.Abs
set_option linter.unusedSimpArgs false
set_option linter.unusedVariables false
set_option maxRecDepth 20000

/-! Sums of weights. -/
def sumK (w : List Int) (P : Nat → Bool) : Nat → Int
  | 0 => 0
  | k + 1 => sumK w P k + if P k then w.getD k 0 else 0
theorem sumK_congr {w : List Int} {P Q : Nat → Bool} : ∀ {k : Nat}, (∀ i, i < k → P i = Q i) → sumK w P k = sumK w Q k := by
  intro k
  induction k with
  | zero => intro _; rfl
  | succ k ih =>
    intro h
    show sumK w P k + _ = sumK w Q k + _
    rw [ih (fun i hi => h i (by omega)), h k (by omega)]
theorem sumK_or {w : List Int} {P Q : Nat → Bool} : ∀ {k : Nat}, (∀ i, i < k → ¬ (P i = true ∧ Q i = true)) → sumK w (fun i => P i || Q i) k = sumK w P k + sumK w Q k := by
  intro k
  induction k with
  | zero => intro _; rfl
  | succ k ih =>
    intro h
    have h1 := ih (fun i hi => h i (by omega))
    have h2 := h k (by omega)
    simp only [sumK, h1]
    generalize w.getD k 0 = x
    by_cases hp : P k = true <;> by_cases hq : Q k = true
    · exact absurd ⟨hp, hq⟩ h2
    · simp [hp, hq]; omega
    · simp [hp, hq]; omega
    · simp [hp, hq]
theorem sumK_nonneg {w : List Int} {P : Nat → Bool} : ∀ {k : Nat}, (∀ i, i < k → 0 ≤ w.getD i 0) → 0 ≤ sumK w P k := by
  intro k
  induction k with
  | zero => intro _; exact Int.le_refl _
  | succ k ih =>
    intro h
    have h1 := ih (fun i hi => h i (by omega))
    have h2 := h k (by omega)
    simp only [sumK]
    split <;> omega
theorem sumK_le {w : List Int} {c : Int} {P : Nat → Bool} : ∀ {k : Nat}, (∀ i, i < k → w.getD i 0 ≤ c) → 0 ≤ c → sumK w P k ≤ k * c := by
  intro k
  induction k with
  | zero => intro _ _; simp [sumK]
  | succ k ih =>
    intro h hc
    have h1 := ih (fun i hi => h i (by omega)) hc
    have h2 := h k (by omega)
    have e : ((k + 1 : Nat) : Int) * c = k * c + c := by rw [Int.natCast_add, Int.add_mul]; simp
    simp only [sumK]
    split <;> omega
theorem sumK_sub {w : List Int} {P Q : Nat → Bool} : ∀ {k : Nat}, (∀ i, i < k → 0 ≤ w.getD i 0) → (∀ i, i < k → P i = true → Q i = true) → sumK w P k ≤ sumK w Q k := by
  intro k
  induction k with
  | zero => intro _ _; exact Int.le_refl _
  | succ k ih =>
    intro h h2
    have h1 := ih (fun i hi => h i (by omega)) (fun i hi => h2 i (by omega))
    have h3 := h k (by omega)
    have h4 := h2 k (by omega)
    simp only [sumK]
    generalize w.getD k 0 = x at h3 ⊢
    by_cases hp : P k = true
    · rw [if_pos hp, if_pos (h4 hp)]; omega
    · rw [if_neg hp]; split <;> omega
/-- A part that is not all weighs less. -/
theorem sumK_lt {w : List Int} {P Q : Nat → Bool} : ∀ {k : Nat}, (∀ i, i < k → 0 < w.getD i 0) → (∀ i, i < k → P i = true → Q i = true) → ∀ {j : Nat}, j < k → Q j = true → P j = false → sumK w P k < sumK w Q k := by
  intro k
  induction k with
  | zero => intro _ _ j hj; omega
  | succ k ih =>
    intro h h2 j hj hq hp
    simp only [sumK]
    rcases Nat.lt_or_ge j k with h3 | h3
    · have h1 := ih (fun i hi => h i (by omega)) (fun i hi => h2 i (by omega)) h3 hq hp
      have h5 := h k (by omega)
      have h4 := h2 k (by omega)
      generalize w.getD k 0 = x at h5 ⊢
      by_cases hp : P k = true
      · rw [if_pos hp, if_pos (h4 hp)]; omega
      · rw [if_neg hp]; split <;> omega
    · have : j = k := by omega
      subst this
      have h1 := sumK_sub (w := w) (P := P) (Q := Q) (k := j) (fun i hi => Int.le_of_lt (h i (by omega))) (fun i hi => h2 i (by omega))
      have h5 := h j (by omega)
      rw [hp, hq, if_neg (by decide), if_pos rfl]
      omega

/-! Sets of vertices as bits. -/
def mk (p : List Nat) : Nat := p.foldl (fun s v => s ||| 2 ^ v) 0
theorem mk_snoc (p : List Nat) (v : Nat) : mk (p ++ [v]) = mk p ||| 2 ^ v := by simp [mk, List.foldl_append]
theorem bit_or {s v x : Nat} : (s ||| 2 ^ v).testBit x = (s.testBit x || decide (v = x)) := by
  rw [Nat.testBit_or, Nat.testBit_two_pow]
theorem mk_bit (x : Nat) : ∀ p : List Nat, (mk p).testBit x = decide (x ∈ p) := by
  intro p
  generalize hq : p.reverse = q
  have : p = q.reverse := by rw [← hq, List.reverse_reverse]
  subst this
  clear hq
  induction q with
  | nil => simp [mk]
  | cons v q ih =>
    rw [List.reverse_cons, mk_snoc, bit_or, ih]
    by_cases h1 : x ∈ q.reverse <;> by_cases h2 : v = x
    · simp [h1, h2]
    · simp [h1, h2]
    · subst h2; simp
    · have : ¬ x = v := fun hh => h2 hh.symm
      simp [h1, h2, this]

/-! Backward pieces. -/
def bwP (a : List (Int × Int)) (v s i : Nat) : Bool := decide (fr a i = v) && s.testBit (tt a i)
def bw (a : List (Int × Int)) (w : List Int) (v s : Nat) : Int := sumK w (bwP a v s) a.length
/-- Whether piece i leads backward in an order. -/
def bB (a : List (Int × Int)) (p : List Nat) (i : Nat) : Bool := (List.range p.length).any fun k => decide (p.getD k 0 = fr a i) && decide (tt a i ∈ p.take k)
theorem bB_snoc (a : List (Int × Int)) (p : List Nat) (v i : Nat) : bB a (p ++ [v]) i = (bB a p i || (decide (v = fr a i) && decide (tt a i ∈ p))) := by
  unfold bB
  rw [List.length_append, List.length_singleton, List.range_succ, List.any_append]
  have h1 : ∀ k, k < p.length → (p ++ [v]).getD k 0 = p.getD k 0 ∧ (p ++ [v]).take k = p.take k := fun k hk => by
    refine ⟨by simp [List.getD, List.getElem?_append, hk], by rw [List.take_append_of_le_length (by omega)]⟩
  congr 1
  · rw [Bool.eq_iff_iff, List.any_eq_true, List.any_eq_true]
    constructor
    · rintro ⟨k, hk, h⟩
      have := h1 k (List.mem_range.1 hk)
      rw [this.1, this.2] at h
      exact ⟨k, hk, h⟩
    · rintro ⟨k, hk, h⟩
      have := h1 k (List.mem_range.1 hk)
      refine ⟨k, hk, ?_⟩
      rw [this.1, this.2]
      exact h
  · have e1 : (p ++ [v]).getD p.length 0 = v := by simp [List.getD]
    have e2 : (p ++ [v]).take p.length = p := by simp
    simp [e1, e2]
theorem bB_mem {a : List (Int × Int)} {p : List Nat} {i : Nat} (h : bB a p i = true) : fr a i ∈ p ∧ tt a i ∈ p := by
  unfold bB at h
  obtain ⟨k, h1, h2⟩ := List.any_eq_true.1 h
  rw [Bool.and_eq_true, decide_eq_true_eq, decide_eq_true_eq] at h2
  refine ⟨?_, List.mem_of_mem_take h2.2⟩
  rw [← h2.1]
  exact mem_getD (List.mem_range.1 h1)
/-- The weight of the backward pieces. -/
def bc (a : List (Int × Int)) (w : List Int) (p : List Nat) : Int := sumK w (bB a p) a.length
theorem bc_snoc {a : List (Int × Int)} {w : List Int} {p : List Nat} {v : Nat} (hv : v ∉ p) : bc a w (p ++ [v]) = bc a w p + bw a w v (mk p) := by
  unfold bc bw
  rw [sumK_congr (Q := fun i => bB a p i || bwP a v (mk p) i) (fun i _ => ?_), sumK_or]
  · intro i _ ⟨h1, h2⟩
    unfold bwP at h2
    rw [Bool.and_eq_true, decide_eq_true_eq] at h2
    exact hv (h2.1 ▸ (bB_mem h1).1)
  · rw [bB_snoc]
    unfold bwP
    rw [mk_bit]
    by_cases h : v = fr a i
    · subst h; simp
    · have : ¬ fr a i = v := fun hh => h hh.symm
      simp [h, this]
theorem bc_nil (a : List (Int × Int)) (w : List Int) : bc a w [] = 0 := by
  have : ∀ k, sumK w (bB a []) k = 0 := by
    intro k
    induction k with
    | zero => rfl
    | succ k ih => simp [sumK, ih, bB]
  exact this _

/-! All orders that begin with some vertices. -/
def enum (n : Nat) : Nat → List Nat → List (List Nat)
  | 0, p => [p]
  | r + 1, p => (List.range n).flatMap fun v => if v ∈ p then [] else enum n r (p ++ [v])
/-- An order of vertices, as far as it goes. -/
def Pre (n : Nat) (p : List Nat) : Prop := p.Nodup ∧ ∀ v ∈ p, v < n
theorem Pre.snoc {n : Nat} {p : List Nat} (h : Pre n p) {v : Nat} (hv : v < n) (hn : v ∉ p) : Pre n (p ++ [v]) := by
  refine ⟨?_, fun x hx => ?_⟩
  · rw [List.nodup_append]
    refine ⟨h.1, by simp, fun x hx y hy => ?_⟩
    rw [List.mem_singleton] at hy
    subst hy
    intro hxy; subst hxy; exact hn hx
  · rw [List.mem_append, List.mem_singleton] at hx
    rcases hx with hx | rfl
    · exact h.2 x hx
    · exact hv
theorem Pre.len {n : Nat} {p : List Nat} (h : Pre n p) : p.length ≤ n := nd_lenN h.1 h.2
theorem mem_enum {n : Nat} : ∀ (r : Nat) (p : List Nat), Pre n p → p.length + r = n → ∀ o, o ∈ enum n r p ↔ Pre n o ∧ o.length = n ∧ ∃ q, o = p ++ q := by
  intro r
  induction r with
  | zero =>
    intro p hp hl o
    simp only [enum, List.mem_singleton]
    constructor
    · rintro rfl; exact ⟨hp, by omega, [], by simp⟩
    · rintro ⟨h1, h2, q, rfl⟩
      have : q = [] := List.eq_nil_of_length_eq_zero (by rw [List.length_append] at h2; omega)
      rw [this, List.append_nil]
  | succ r ih =>
    intro p hp hl o
    simp only [enum, List.mem_flatMap, List.mem_range]
    constructor
    · rintro ⟨v, hv, h⟩
      by_cases hm : v ∈ p
      · rw [if_pos hm] at h; cases h
      · rw [if_neg hm] at h
        obtain ⟨h1, h2, q, rfl⟩ := (ih _ (hp.snoc hv hm) (by simp; omega) o).1 h
        exact ⟨h1, h2, v :: q, by simp⟩
    · rintro ⟨h1, h2, q, rfl⟩
      cases q with
      | nil => simp at h2; omega
      | cons v q =>
        have hv : v < n := h1.2 v (by simp)
        have hm : v ∉ p := fun hh => by
          have := (List.nodup_append.1 h1.1).2.2 v hh v (by simp)
          exact this rfl
        refine ⟨v, hv, ?_⟩
        rw [if_neg hm]
        exact (ih _ (hp.snoc hv hm) (by simp; omega) _).2 ⟨h1, h2, q, by simp⟩

/-! The table. -/
def tKg (a : List (Int × Int)) (w : List Int) (f : Nat → Int) (s : Nat) : Nat → Int
  | 0 => -1
  | v + 1 => if s.testBit v then tKg a w f s v else if tKg a w f s v < 0 ∨ bw a w v s + f (s ||| 2 ^ v) < tKg a w f s v then bw a w v s + f (s ||| 2 ^ v) else tKg a w f s v
def T (n : Nat) (a : List (Int × Int)) (w : List Int) : Nat → Nat → Int
  | 0, _ => 0
  | r + 1, s => tKg a w (T n a w r) s n
def Wok (a : List (Int × Int)) (w : List Int) : Prop := ∀ i, i < a.length → 0 ≤ w.getD i 0
theorem bw_nonneg {a : List (Int × Int)} {w : List Int} (hw : Wok a w) (v s : Nat) : 0 ≤ bw a w v s := sumK_nonneg hw
theorem tKg_spec {a : List (Int × Int)} {w : List Int} (hw : Wok a w) {f : Nat → Int} {s : Nat} : ∀ k, (∀ v, v < k → s.testBit v = false → 0 ≤ f (s ||| 2 ^ v)) →
    (tKg a w f s k = -1 ∧ ∀ v, v < k → s.testBit v = true) ∨ (0 ≤ tKg a w f s k ∧ (∀ v, v < k → s.testBit v = false → tKg a w f s k ≤ bw a w v s + f (s ||| 2 ^ v)) ∧ ∃ v, v < k ∧ s.testBit v = false ∧ tKg a w f s k = bw a w v s + f (s ||| 2 ^ v)) := by
  intro k
  induction k with
  | zero => intro _; exact .inl ⟨rfl, fun v hv => absurd hv (Nat.not_lt_zero _)⟩
  | succ k ih =>
    intro hf
    have ih := ih (fun v hv => hf v (by omega))
    unfold tKg
    cases hb : s.testBit k with
    | true =>
      rw [if_pos rfl]
      rcases ih with ⟨h1, h2⟩ | ⟨h1, h2, v, h3, h4, h5⟩
      · exact .inl ⟨h1, all_succ h2 hb⟩
      · refine .inr ⟨h1, all_succ h2 (fun hh => by rw [hb] at hh; cases hh), v, by omega, h4, h5⟩
    | false =>
      rw [if_neg (by decide)]
      have h0 := hf k (by omega) hb
      have h00 := bw_nonneg hw k s
      rcases ih with ⟨h1, h2⟩ | ⟨h1, h2, v, h3, h4, h5⟩
      · rw [if_pos (.inl (by omega))]
        refine .inr ⟨by omega, all_succ (fun v hv hv2 => by rw [h2 v hv] at hv2; cases hv2) (fun _ => Int.le_refl _), k, by omega, hb, rfl⟩
      · by_cases hlt : bw a w k s + f (s ||| 2 ^ k) < tKg a w f s k
        · rw [if_pos (.inr hlt)]
          refine .inr ⟨by omega, all_succ (fun v hv hv2 => by have := h2 v hv hv2; omega) (fun _ => Int.le_refl _), k, by omega, hb, rfl⟩
        · rw [if_neg (fun hh => by omega)]
          refine .inr ⟨h1, all_succ h2 (fun _ => by omega), v, by omega, h4, h5⟩
theorem exists_out {n : Nat} {p : List Nat} (hp : Pre n p) (hl : p.length < n) : ∃ v, v < n ∧ v ∉ p := by
  refine Classical.byContradiction fun hn => ?_
  have : ∀ v, v < n → v ∈ p := fun v hv => Classical.byContradiction fun hh => hn ⟨v, hv, hh⟩
  have h1 := nd_len (nats_nodup (List.nodup_range (n := n))) (B := nats p) (fun x hx => by
    obtain ⟨k, rfl, hk⟩ := of_nats hx
    exact mem_nats.2 (this k (List.mem_range.1 hk)))
  rw [nats_len, nats_len, List.length_range] at h1
  omega
theorem mk_out {p : List Nat} {v : Nat} : (mk p).testBit v = false ↔ v ∉ p := by rw [mk_bit]; simp
/-- The table holds the least costs. -/
theorem T_min {n : Nat} {a : List (Int × Int)} {w : List Int} (hw : Wok a w) : ∀ (r : Nat) (p : List Nat), Pre n p → p.length + r = n → 0 ≤ T n a w r (mk p) ∧ (∀ o ∈ enum n r p, bc a w p + T n a w r (mk p) ≤ bc a w o) ∧ ∃ o ∈ enum n r p, bc a w o = bc a w p + T n a w r (mk p) := by
  intro r
  induction r with
  | zero =>
    intro p hp hl
    simp only [T, enum, List.mem_singleton]
    refine ⟨Int.le_refl _, ?_, p, rfl, by omega⟩
    rintro o rfl
    omega
  | succ r ih =>
    intro p hp hl
    have hsp := tKg_spec hw (f := T n a w r) (s := mk p) n (fun v hv hb => by
      have := (ih (p ++ [v]) (hp.snoc hv (mk_out.1 hb)) (by simp; omega)).1
      rwa [mk_snoc] at this)
    show 0 ≤ tKg a w (T n a w r) (mk p) n ∧ _
    obtain ⟨v0, hv0, hn0⟩ := exists_out hp (by omega)
    rcases hsp with ⟨_, h2⟩ | ⟨h1, h2, v, h3, h4, h5⟩
    · have := h2 v0 hv0
      rw [mk_out.2 hn0] at this
      cases this
    · refine ⟨h1, fun o ho => ?_, ?_⟩
      · simp only [enum, List.mem_flatMap, List.mem_range] at ho
        obtain ⟨u, hu, ho⟩ := ho
        by_cases hm : u ∈ p
        · rw [if_pos hm] at ho; cases ho
        · rw [if_neg hm] at ho
          have h6 := (ih (p ++ [u]) (hp.snoc hu hm) (by simp; omega)).2.1 o ho
          rw [bc_snoc hm, mk_snoc] at h6
          have h7 := h2 u hu (mk_out.2 hm)
          show bc a w p + tKg a w (T n a w r) (mk p) n ≤ _
          omega
      · have hm := mk_out.1 h4
        obtain ⟨o, ho, he⟩ := (ih (p ++ [v]) (hp.snoc h3 hm) (by simp; omega)).2.2
        rw [bc_snoc hm, mk_snoc] at he
        refine ⟨o, ?_, ?_⟩
        · simp only [enum, List.mem_flatMap, List.mem_range]
          exact ⟨v, h3, by rw [if_neg hm]; exact ho⟩
        · show _ = bc a w p + tKg a w (T n a w r) (mk p) n
          omega
/-- The least cost of an order. -/
def tot (n : Nat) (a : List (Int × Int)) (w : List Int) : Int := T n a w n 0
theorem tot_min {n : Nat} {a : List (Int × Int)} {w : List Int} (hw : Wok a w) : 0 ≤ tot n a w ∧ (∀ o, Pre n o → o.length = n → tot n a w ≤ bc a w o) ∧ ∃ o, Pre n o ∧ o.length = n ∧ bc a w o = tot n a w := by
  have hp : Pre n [] := ⟨by simp, by simp⟩
  obtain ⟨h1, h2, o, h3, h4⟩ := T_min hw n [] hp (by simp)
  rw [bc_nil] at h4
  have hmem := mem_enum n [] hp (by simp)
  refine ⟨h1, fun o ho hl => ?_, o, ?_, ?_, ?_⟩
  · have := h2 o ((hmem o).2 ⟨ho, hl, o, by simp⟩)
    rw [bc_nil] at this
    simpa [tot, mk] using this
  · exact ((hmem o).1 h3).1
  · exact ((hmem o).1 h3).2.1
  · simpa [tot, mk] using h4
end Go.Proofs.YtidmekdkfiljjaaGreat
namespace Go.Proofs.YtidmekdkfiljjaaGreat
open Go Go.Abs
set_option linter.unusedSimpArgs false
set_option linter.unusedVariables false
set_option maxRecDepth 20000

/-- The backward pieces of an order. -/
def Bl (a : List (Int × Int)) (o : List Nat) : List Nat := (List.range a.length).filter (bB a o)
theorem mem_Bl {a : List (Int × Int)} {o : List Nat} {i : Nat} : i ∈ Bl a o ↔ i < a.length ∧ bB a o i = true := by
  unfold Bl; rw [List.mem_filter, List.mem_range]
theorem Bl_asc (a : List (Int × Int)) (o : List Nat) : (nats (Bl a o)).Pairwise (· < ·) := by
  unfold nats Bl
  rw [List.pairwise_map]
  exact ((List.pairwise_lt_range).sublist List.filter_sublist).imp fun h => by omega
/-! The order that is read off the table. -/
def gC (n : Nat) (a : List (Int × Int)) (w : List Int) (r s v : Nat) : Bool := !s.testBit v && decide (bw a w v s + T n a w r (s ||| 2 ^ v) = T n a w (r + 1) s)
def gO (n : Nat) (a : List (Int × Int)) (w : List Int) : Nat → List Nat → List Nat
  | 0, p => p
  | r + 1, p => match (List.range n).find? (gC n a w r (mk p)) with
    | some v => gO n a w r (p ++ [v])
    | none => p
theorem find_some_if {α β : Type} (c : α → Bool) (g : α → β) : ∀ l : List α, l.findSome? (fun v => if c v = true then some (g v) else none) = (l.find? c).map g := by
  intro l
  induction l with
  | nil => rfl
  | cons x l ih =>
    rw [List.findSome?_cons, List.find?_cons]
    cases h : c x with
    | true => simp
    | false => simp [ih]
theorem findSome_congr {α β : Type} {f g : α → Option β} : ∀ {l : List α}, (∀ x, x ∈ l → f x = g x) → l.findSome? f = l.findSome? g := by
  intro l
  induction l with
  | nil => intro _; rfl
  | cons x l ih =>
    intro h
    rw [List.findSome?_cons, List.findSome?_cons, h x (by simp), ih (fun y hy => h y (by simp [hy]))]
theorem gO_find {n : Nat} {a : List (Int × Int)} {w : List Int} (hw : Wok a w) : ∀ (r : Nat) (p : List Nat), Pre n p → p.length + r = n → (enum n r p).find? (fun o => decide (bc a w o = bc a w p + T n a w r (mk p))) = some (gO n a w r p) ∧
    (∀ k, r = k + 1 → ∃ v, (List.range n).find? (gC n a w k (mk p)) = some v ∧ v < n ∧ v ∉ p) := by
  intro r
  induction r with
  | zero =>
    intro p hp hl
    refine ⟨?_, fun k hk => by omega⟩
    simp [enum, T, gO]
  | succ r ih =>
    intro p hp hl
    obtain ⟨t1, t2, o, t3, t4⟩ := T_min hw (r + 1) p hp hl
    have hF : ∀ v, v ∈ List.range n → ((if v ∈ p then [] else enum n r (p ++ [v])).find? fun o => decide (bc a w o = bc a w p + T n a w (r + 1) (mk p))) = if gC n a w r (mk p) v = true then some (gO n a w r (p ++ [v])) else none := fun v hv => by
      have hv := List.mem_range.1 hv
      by_cases hm : v ∈ p
      · rw [if_pos hm]
        have : gC n a w r (mk p) v = false := by unfold gC; rw [mk_bit]; simp [hm]
        rw [this]; rfl
      · rw [if_neg hm]
        have hp2 := hp.snoc hv hm
        have hl2 : (p ++ [v]).length + r = n := by simp; omega
        by_cases hc : bw a w v (mk p) + T n a w r (mk p ||| 2 ^ v) = T n a w (r + 1) (mk p)
        · have : gC n a w r (mk p) v = true := by unfold gC; rw [mk_bit]; simp [hm, hc]
          rw [this, if_pos rfl, ← (ih (p ++ [v]) hp2 hl2).1, mk_snoc, bc_snoc hm]
          congr 1
          funext o
          congr 1
          rw [← hc, Int.add_assoc]
        · have : gC n a w r (mk p) v = false := by unfold gC; simp [hc]
          rw [this, if_neg (by decide), List.find?_eq_none]
          intro x hx
          have h1 := (T_min hw r (p ++ [v]) hp2 hl2).2.1 x hx
          rw [mk_snoc, bc_snoc hm] at h1
          have h2 : bc a w p + T n a w (r + 1) (mk p) ≤ bc a w p + bw a w v (mk p) + T n a w r (mk p ||| 2 ^ v) := by
            obtain ⟨y, y1, y2⟩ := (T_min hw r (p ++ [v]) hp2 hl2).2.2
            rw [mk_snoc, bc_snoc hm] at y2
            rw [← y2]
            refine t2 y ?_
            simp only [enum, List.mem_flatMap, List.mem_range]
            exact ⟨v, hv, by rw [if_neg hm]; exact y1⟩
          simp only [decide_eq_true_eq]
          omega
    have hsome : ((List.range n).find? (gC n a w r (mk p))).map (fun v => gO n a w r (p ++ [v])) = (enum n (r + 1) p).find? (fun o => decide (bc a w o = bc a w p + T n a w (r + 1) (mk p))) := by
      rw [← find_some_if]
      simp only [enum]
      rw [List.find?_flatMap]
      exact findSome_congr fun v hv => (hF v hv).symm
    have hex : (enum n (r + 1) p).find? (fun o => decide (bc a w o = bc a w p + T n a w (r + 1) (mk p))) ≠ none := by
      rw [ne_eq, List.find?_eq_none]
      intro hh
      exact hh o t3 (by simpa using t4)
    cases hg : (List.range n).find? (gC n a w r (mk p)) with
    | none => rw [hg] at hsome; exact absurd hsome.symm hex
    | some v =>
      rw [hg] at hsome
      have hvm := List.mem_of_find?_eq_some hg
      have hvc := List.find?_some hg
      refine ⟨?_, fun k hk => ?_⟩
      · rw [← hsome]
        show some _ = some _
        congr 1
        show _ = gO n a w (r + 1) p
        rw [gO, hg]
      · have : k = r := by omega
        subst this
        refine ⟨v, hg, List.mem_range.1 hvm, fun hm => ?_⟩
        unfold gC at hvc
        rw [mk_bit] at hvc
        simp [hm] at hvc
end Go.Proofs.YtidmekdkfiljjaaGreat
namespace Go.Proofs.YtidmekdkfiljjaaGreat
open Go Go.Abs
set_option linter.unusedSimpArgs false
set_option linter.unusedVariables false
set_option maxRecDepth 20000

theorem cmpL_diff2 : ∀ {s t : List Int}, s.Pairwise (· < ·) → t.Pairwise (· < ·) → ∀ {y x : Int}, y ∈ s → y ∉ t → x ∈ t → y < x → (∀ z, z < y → (z ∈ s ↔ z ∈ t)) → cmpL s t < 0 := by
  intro s
  induction s with
  | nil => intro t _ _ y x h; cases h
  | cons a s ih =>
    intro t hs ht y x hy hyt hx hyx hz
    cases t with
    | nil => cases hx
    | cons b t =>
      obtain ⟨s1, s2⟩ := List.pairwise_cons.1 hs
      obtain ⟨t1, t2⟩ := List.pairwise_cons.1 ht
      have hay : a ≤ y := by
        rcases List.mem_cons.1 hy with rfl | h
        · exact Int.le_refl _
        · exact Int.le_of_lt (s1 y h)
      simp only [cmpL]
      rcases Int.lt_trichotomy a b with h | h | h
      · rw [if_pos h]; omega
      · subst h
        rw [if_neg (by omega), if_neg (by omega)]
        have hne : y ≠ a := fun hh => hyt (by rw [hh]; exact List.mem_cons_self)
        have hys : y ∈ s := by
          rcases List.mem_cons.1 hy with h | h
          · exact absurd h hne
          · exact h
        have hxt : x ∈ t := by
          rcases List.mem_cons.1 hx with h | h
          · have := s1 y hys; omega
          · exact h
        refine ih s2 t2 hys (fun hh => hyt (List.mem_cons_of_mem _ hh)) hxt hyx fun z hzy => ?_
        have h0 := hz z hzy
        constructor
        · intro h1
          have h2 := s1 z h1
          rcases List.mem_cons.1 (h0.1 (List.mem_cons_of_mem _ h1)) with h3 | h3
          · omega
          · exact h3
        · intro h1
          have h2 := t1 z h1
          rcases List.mem_cons.1 (h0.2 (List.mem_cons_of_mem _ h1)) with h3 | h3
          · omega
          · exact h3
      · exfalso
        have := (hz b (by omega)).2 List.mem_cons_self
        rcases List.mem_cons.1 this with h3 | h3
        · omega
        · have := s1 b h3; omega
theorem sumK_congr2 {w w' : List Int} {P Q : Nat → Bool} : ∀ {k : Nat}, (∀ i, i < k → (if P i = true then w.getD i 0 else 0) = if Q i = true then w'.getD i 0 else 0) → sumK w P k = sumK w' Q k := by
  intro k
  induction k with
  | zero => intro _; rfl
  | succ k ih =>
    intro h
    show sumK w P k + _ = sumK w' Q k + _
    rw [ih (fun i hi => h i (by omega)), h k (by omega)]
theorem sumK_one {w : List Int} {j : Nat} : ∀ {k : Nat}, j < k → sumK w (fun i => decide (i = j)) k = w.getD j 0 := by
  intro k
  induction k with
  | zero => intro h; omega
  | succ k ih =>
    intro h
    simp only [sumK]
    rcases Nat.lt_or_ge j k with h1 | h1
    · rw [ih h1, if_neg (by simp; omega)]; omega
    · have : j = k := by omega
      subst this
      have : sumK w (fun i => decide (i = j)) j = 0 := by
        have : ∀ m, m ≤ j → sumK w (fun i => decide (i = j)) m = 0 := by
          intro m
          induction m with
          | zero => intro _; rfl
          | succ m ihm =>
            intro hm
            simp only [sumK]
            rw [ihm (by omega), if_neg (by simp; omega)]; omega
        exact this j (Nat.le_refl _)
      rw [this, if_pos (by simp)]; omega
/-- One entry is not more than the sum. -/
theorem sumK_one_le {w : List Int} {P : Nat → Bool} {k j : Nat} (hw : ∀ i, i < k → 0 ≤ w.getD i 0) (hj : j < k) (hp : P j = true) : w.getD j 0 ≤ sumK w P k := by
  rw [← sumK_one (w := w) hj]
  refine sumK_sub hw fun i _ hi => ?_
  rw [of_decide_eq_true hi]; exact hp
/-- Weights of evidence. -/
def W1 (a : List (Int × Int)) (w : List Int) : Prop := w.length = a.length ∧ a.length ≤ 24 ∧ ∀ i, i < a.length → 1 ≤ w.getD i 0 ∧ w.getD i 0 ≤ 100
theorem W1.ok {a : List (Int × Int)} {w : List Int} (h : W1 a w) : Wok a w := fun i hi => by have := h.2.2 i hi; omega
/-- A best order. -/
def Opt (n : Nat) (a : List (Int × Int)) (w : List Int) (o : List Nat) : Prop := Pre n o ∧ o.length = n ∧ bc a w o = tot n a w
/-- Which pieces are chosen, and the weights that are left, after i pieces. -/
def lsK (n : Nat) (a : List (Int × Int)) (w : List Int) : Nat → List Nat × Int × List Int
  | 0 => ([], 0, w)
  | i + 1 => if (lsK n a w i).2.1 + w.getD i 0 + tot n a ((lsK n a w i).2.2.set i 0) = tot n a w
      then ((lsK n a w i).1 ++ [i], (lsK n a w i).2.1 + w.getD i 0, (lsK n a w i).2.2.set i 0)
      else ((lsK n a w i).1, (lsK n a w i).2.1, ((lsK n a w i).2.2.set i 0).set i 1000000)
structure Inv (n : Nat) (a : List (Int × Int)) (w : List Int) (i : Nat) (O : List Nat) (S : Int) (L : List Int) : Prop where
  len : L.length = w.length
  at_ : ∀ j, j < a.length → L.getD j 0 = if j < i then (if j ∈ O then 0 else 1000000) else w.getD j 0
  lt : ∀ j ∈ O, j < i
  asc : O.Pairwise (· < ·)
  sum : S = sumK w (fun j => decide (j ∈ O)) a.length
  opt : ∃ o, Opt n a w o ∧ ∀ j, j < i → (bB a o j = true ↔ j ∈ O)
section
variable {n : Nat} {a : List (Int × Int)} {w : List Int} (hw : W1 a w)
include hw
theorem tot_le : tot n a w ≤ 2400 := by
  obtain ⟨h1, h2, o, h3, h4, h5⟩ := tot_min (n := n) hw.ok
  rw [← h5]
  have := sumK_le (w := w) (c := 100) (P := bB a o) (k := a.length) (fun i hi => (hw.2.2 i hi).2) (by omega)
  have := hw.2.1
  unfold bc
  omega
theorem set_at {L : List Int} (hl : L.length = w.length) {i : Nat} (hi : i < a.length) (v : Int) (j : Nat) : (L.set i v).getD j 0 = if i = j then v else L.getD j 0 := getD_setI (by rw [hl, hw.1]; exact hi) v j
omit hw in
theorem sum_step {O : List Nat} {i : Nat} (hi : i < a.length) (hO : ∀ j ∈ O, j < i) : sumK w (fun j => decide (j ∈ O ++ [i])) a.length = sumK w (fun j => decide (j ∈ O)) a.length + w.getD i 0 := by
  rw [← sumK_one (w := w) hi, ← sumK_or]
  · refine sumK_congr fun j _ => ?_
    by_cases h1 : j ∈ O <;> by_cases h2 : j = i <;> simp [h1, h2]
  · intro j _ ⟨h1, h2⟩
    have := hO j (of_decide_eq_true h1)
    have := of_decide_eq_true h2
    omega
/-- Whether one more piece can be chosen. -/
theorem step_iff {i : Nat} (hi : i < a.length) {O : List Nat} {S : Int} {L : List Int} (k : Inv n a w i O S L) :
    S + w.getD i 0 + tot n a (L.set i 0) = tot n a w ↔ ∃ o, Opt n a w o ∧ (∀ j, j < i → (bB a o j = true ↔ j ∈ O)) ∧ bB a o i = true := by
  have hS := k.sum
  have htot := tot_le (n := n) hw
  have hset := set_at hw k.len hi 0
  have hwi := hw.2.2 i hi
  have hL1 : ∀ j, j < a.length → (L.set i 0).getD j 0 = if j < i then (if j ∈ O then 0 else 1000000) else if j = i then 0 else w.getD j 0 := fun j hj => by
    rw [hset, k.at_ j hj]
    by_cases h1 : i = j
    · subst h1; simp
    · have h2 : ¬ j = i := fun hh => h1 hh.symm
      rw [if_neg h1, if_neg h2]
  have hok1 : Wok a (L.set i 0) := fun j hj => by
    rw [hL1 j hj]
    have := hw.2.2 j hj
    split
    · split <;> omega
    · split <;> omega
  have hSnn : 0 ≤ S := by rw [hS]; exact sumK_nonneg hw.ok
  obtain ⟨g1, g2, og, g3, g4, g5⟩ := tot_min (n := n) hok1
  obtain ⟨t1, t2, ot, t3, t4, t5⟩ := tot_min (n := n) hw.ok
  -- an order that leads none of the others backward
  have hav : ∀ o, (∀ j, j < i → bB a o j = true → j ∈ O) → S + w.getD i 0 + bc a (L.set i 0) o = sumK w (fun j => decide (j ∈ O ++ [i]) || (decide (i < j) && bB a o j)) a.length := fun o ho => by
    rw [sumK_or, sum_step hi k.lt, ← hS]
    · congr 1
      unfold bc
      refine sumK_congr2 fun j hj => ?_
      rw [hL1 j hj]
      by_cases hb : bB a o j = true
      · rw [if_pos hb, hb, Bool.and_true]
        rcases Nat.lt_trichotomy j i with h1 | h1 | h1
        · rw [if_pos h1, if_pos (ho j h1 hb), decide_eq_false (by omega), if_neg (by decide)]
        · subst h1; rw [if_neg (by omega), if_pos rfl, decide_eq_false (by omega), if_neg (by decide)]
        · rw [if_neg (by omega), if_neg (by omega), decide_eq_true h1, if_pos rfl]
      · have hb' : bB a o j = false := Bool.eq_false_iff.2 hb
        rw [if_neg hb, hb', Bool.and_false, if_neg (by decide)]
    · intro j _ ⟨h1, h2⟩
      rw [Bool.and_eq_true, decide_eq_true_eq] at h2
      have := of_decide_eq_true h1
      rw [List.mem_append, List.mem_singleton] at this
      rcases this with h3 | rfl
      · have := k.lt j h3; omega
      · omega
  have hle : ∀ o, (∀ j, j < i → bB a o j = true → j ∈ O) → bc a w o ≤ S + w.getD i 0 + bc a (L.set i 0) o := fun o ho => by
    rw [hav o ho]
    refine sumK_sub hw.ok fun j hj hb => ?_
    rcases Nat.lt_trichotomy j i with h1 | h1 | h1
    · simp [ho j h1 hb]
    · subst h1; simp
    · simp [h1, hb]
  have hbig : ∀ o, ¬ (∀ j, j < i → bB a o j = true → j ∈ O) → 1000000 ≤ bc a (L.set i 0) o := fun o ho => by
    obtain ⟨j, hj⟩ := Classical.not_forall.1 ho
    have h1 : j < i := Classical.byContradiction fun hh => hj fun hji => absurd hji hh
    have h2 : bB a o j = true := Classical.byContradiction fun hh => hj fun _ hb => absurd hb hh
    have h3 : j ∉ O := fun hh => hj fun _ _ => hh
    have := sumK_one_le hok1 (show j < a.length by omega) h2
    rw [hL1 j (by omega), if_pos h1, if_neg h3] at this
    exact this
  constructor
  · intro heq
    have hgood : ∀ j, j < i → bB a og j = true → j ∈ O := Classical.byContradiction fun hn => by
      have := hbig og hn
      omega
    have h1 := hle og hgood
    have h2 := t2 og g3 g4
    have hopt : bc a w og = tot n a w := by omega
    have hall : ∀ j, j < a.length → (decide (j ∈ O ++ [i]) || (decide (i < j) && bB a og j)) = true → bB a og j = true := fun j hj hq => by
      refine Classical.byContradiction fun hb => ?_
      have := sumK_lt (w := w) (P := bB a og) (Q := fun j => decide (j ∈ O ++ [i]) || (decide (i < j) && bB a og j)) (k := a.length) (fun m hm => by have := hw.2.2 m hm; omega) (fun m hm hb2 => ?_) hj hq (Bool.eq_false_iff.2 hb)
      · rw [← hav og hgood] at this
        have h3 : sumK w (bB a og) a.length = bc a w og := rfl
        rw [h3] at this
        omega
      · rcases Nat.lt_trichotomy m i with h4 | h4 | h4
        · simp [hgood m h4 hb2]
        · subst h4; simp
        · simp [h4, hb2]
    exact ⟨og, ⟨g3, g4, hopt⟩, fun j hj => ⟨hgood j hj, fun hm => hall j (by omega) (by simp [hm])⟩, hall i hi (by simp)⟩
  · rintro ⟨o, ⟨p1, p2, p3⟩, p4, p5⟩
    have hgood : ∀ j, j < i → bB a o j = true → j ∈ O := fun j hj => (p4 j hj).1
    have heq : S + w.getD i 0 + bc a (L.set i 0) o = tot n a w := by
      rw [hav o hgood, ← p3]
      refine sumK_congr fun j hj => ?_
      rcases Nat.lt_trichotomy j i with h1 | h1 | h1
      · have h2 : ¬ i < j := by omega
        have h3 : ¬ j = i := by omega
        rw [Bool.eq_iff_iff, p4 j h1]
        simp [h2, h3]
      · subst h1; simp [p5]
      · have h2 : ¬ j = i := by omega
        have h3 : j ∉ O := fun hh => by have := k.lt j hh; omega
        simp [h1, h2, h3]
    have h1 := g2 o p1 p2
    rcases Classical.em (∀ j, j < i → bB a og j = true → j ∈ O) with hg | hg
    · have h2 := hle og hg
      have h3 := t2 og g3 g4
      omega
    · have := hbig og hg
      omega
theorem inv_step {i : Nat} (hi : i < a.length) {O : List Nat} {S : Int} {L : List Int} (k : Inv n a w i O S L) :
    (S + w.getD i 0 + tot n a (L.set i 0) = tot n a w → Inv n a w (i + 1) (O ++ [i]) (S + w.getD i 0) (L.set i 0)) ∧
    (¬ S + w.getD i 0 + tot n a (L.set i 0) = tot n a w → Inv n a w (i + 1) O S ((L.set i 0).set i 1000000)) := by
  have hset := set_at hw k.len hi
  have hiff := step_iff hw hi k
  constructor
  · intro heq
    obtain ⟨o, o1, o2, o3⟩ := hiff.1 heq
    refine ⟨by rw [List.length_set]; exact k.len, fun j hj => ?_, fun j hj => ?_, ?_, ?_, o, o1, fun j hj => ?_⟩
    · rw [hset, k.at_ j hj]
      by_cases h1 : i = j
      · subst h1; simp
      · rw [if_neg h1]
        by_cases h2 : j < i
        · have h3 : ¬ j = i := by omega
          rw [if_pos h2, if_pos (show j < i + 1 by omega)]
          simp [h3]
        · rw [if_neg h2, if_neg (by omega)]
    · rw [List.mem_append, List.mem_singleton] at hj
      rcases hj with hj | rfl
      · have := k.lt j hj; omega
      · omega
    · rw [List.pairwise_append]
      refine ⟨k.asc, by simp, fun x hx y hy => ?_⟩
      rw [List.mem_singleton] at hy
      subst hy
      exact k.lt x hx
    · rw [sum_step hi k.lt, ← k.sum]
    · rw [List.mem_append, List.mem_singleton]
      rcases lt_succ_cases hj with h1 | rfl
      · rw [o2 j h1]
        constructor
        · intro h; exact .inl h
        · rintro (h | h)
          · exact h
          · omega
      · exact ⟨fun _ => .inr rfl, fun _ => o3⟩
  · intro hne
    obtain ⟨o, o1, o2⟩ := k.opt
    have hno : bB a o i = false := Bool.eq_false_iff.2 fun hb => hne (hiff.2 ⟨o, o1, o2, hb⟩)
    refine ⟨by rw [List.length_set, List.length_set]; exact k.len, fun j hj => ?_, fun j hj => by have := k.lt j hj; omega, k.asc, k.sum, o, o1, fun j hj => ?_⟩
    · rw [set_at hw (by rw [List.length_set]; exact k.len) hi, hset, k.at_ j hj]
      by_cases h1 : i = j
      · subst h1
        have : i ∉ O := fun hh => by have := k.lt i hh; omega
        simp [this]
      · rw [if_neg h1, if_neg h1]
        by_cases h2 : j < i
        · rw [if_pos h2, if_pos (show j < i + 1 by omega)]
        · rw [if_neg h2, if_neg (by omega)]
    · rcases lt_succ_cases hj with h1 | rfl
      · exact o2 j h1
      · rw [hno]
        exact ⟨fun h => (by cases h), fun h => by have := k.lt j h; omega⟩
theorem lsK_inv : ∀ i, i ≤ a.length → Inv n a w i (lsK n a w i).1 (lsK n a w i).2.1 (lsK n a w i).2.2 := by
  intro i
  induction i with
  | zero =>
    intro _
    obtain ⟨t1, t2, o, t3, t4, t5⟩ := tot_min (n := n) hw.ok
    have h0 : ∀ k, sumK w (fun j => decide (j ∈ ([] : List Nat))) k = 0 := by
      intro k
      induction k with
      | zero => rfl
      | succ k ih => simp [sumK] at ih ⊢; exact ih
    exact ⟨rfl, fun j _ => by simp [lsK], by simp [lsK], by simp [lsK], (h0 _).symm, o, ⟨t3, t4, t5⟩, fun j hj => absurd hj (Nat.not_lt_zero _)⟩
  | succ i ih =>
    intro hi
    have k := ih (by omega)
    obtain ⟨h1, h2⟩ := inv_step hw (show i < a.length by omega) k
    unfold lsK
    by_cases hc : (lsK n a w i).2.1 + w.getD i 0 + tot n a ((lsK n a w i).2.2.set i 0) = tot n a w
    · rw [if_pos hc]; exact h1 hc
    · rw [if_neg hc]; exact h2 hc
omit hw in
/-- What is chosen of the first pieces stays. -/
theorem lsK_pre (i : Nat) : ∀ d, i + d ≤ a.length → ∀ j, j < i → (j ∈ (lsK n a w (i + d)).1 ↔ j ∈ (lsK n a w i).1) := by
  intro d
  induction d with
  | zero => intro _ j _; exact Iff.rfl
  | succ d ih =>
    intro hd j hj
    rw [← ih (by omega) j hj]
    show j ∈ (lsK n a w (i + d + 1)).1 ↔ _
    rw [lsK]
    split
    · simp only [List.mem_append, List.mem_singleton]
      constructor
      · rintro (h | h)
        · exact h
        · omega
      · intro h; exact .inl h
    · exact Iff.rfl
/-- The chosen pieces: the first of the best sets. -/
theorem lsK_first : (∃ q, Opt n a w q ∧ (lsK n a w a.length).1 = Bl a q) ∧ ∀ o, Opt n a w o → cmpL (nats (lsK n a w a.length).1) (nats (Bl a o)) ≤ 0 := by
  have k := lsK_inv (n := n) hw a.length (Nat.le_refl _)
  have hascN : (nats (lsK n a w a.length).1).Pairwise (· < ·) := by
    unfold nats
    rw [List.pairwise_map]
    exact k.asc.imp fun h => by omega
  obtain ⟨q, q1, q2⟩ := k.opt
  have hO : (lsK n a w a.length).1 = Bl a q := by
    have : nats (lsK n a w a.length).1 = nats (Bl a q) := asc_ext hascN (Bl_asc a q) fun x => by
      constructor
      · intro hx
        obtain ⟨j, rfl, hj⟩ := of_nats hx
        have := k.lt j hj
        exact mem_nats.2 (mem_Bl.2 ⟨this, (q2 j this).2 hj⟩)
      · intro hx
        obtain ⟨j, rfl, hj⟩ := of_nats hx
        obtain ⟨h1, h2⟩ := mem_Bl.1 hj
        exact mem_nats.2 ((q2 j h1).1 h2)
    unfold nats at this
    exact List.map_inj_right (fun x y h => by omega) |>.1 this
  refine ⟨⟨q, q1, hO⟩, fun o ho => ?_⟩
  rcases Classical.em (∃ j, j < a.length ∧ ¬ (bB a o j = true ↔ j ∈ (lsK n a w a.length).1)) with hd | hd
  · obtain ⟨j, ⟨hj, hne⟩, hmin⟩ := least_of hd
    have hsame : ∀ m, m < j → (bB a o m = true ↔ m ∈ (lsK n a w a.length).1) := fun m hm => Classical.byContradiction fun hh => hmin m hm ⟨by omega, hh⟩
    have kj := lsK_inv (n := n) hw j (by omega)
    have hpre := lsK_pre (n := n) (a := a) (w := w) j (a.length - j) (by omega)
    rw [show j + (a.length - j) = a.length by omega] at hpre
    have hpre2 := lsK_pre (n := n) (a := a) (w := w) (j + 1) (a.length - (j + 1)) (by omega) j (by omega)
    rw [show j + 1 + (a.length - (j + 1)) = a.length by omega] at hpre2
    have hiff := step_iff hw hj kj
    have hjn : bB a o j = false ∧ j ∈ (lsK n a w a.length).1 := by
      by_cases hb : bB a o j = true
      · exfalso
        have heq := hiff.2 ⟨o, ho, fun m hm => by rw [hsame m hm, hpre m hm], hb⟩
        refine hne ⟨fun _ => ?_, fun _ => hb⟩
        rw [hpre2, lsK, if_pos heq]
        simp
      · refine ⟨Bool.eq_false_iff.2 hb, Classical.byContradiction fun hh => hne ⟨fun h => absurd h hb, fun h => absurd h hh⟩⟩
    have hx : ∃ x, x ∈ Bl a o ∧ j < x := Classical.byContradiction fun hn => by
      have hsub : ∀ m, m < a.length → bB a o m = true → bB a q m = true := fun m hm hb => by
        rcases Nat.lt_trichotomy m j with h1 | h1 | h1
        · exact (q2 m hm).2 ((hsame m h1).1 hb)
        · subst h1; rw [hjn.1] at hb; cases hb
        · exact absurd ⟨m, mem_Bl.2 ⟨hm, hb⟩, h1⟩ hn
      have := sumK_lt (w := w) (P := bB a o) (Q := bB a q) (k := a.length) (fun m hm => by have := hw.2.2 m hm; omega) hsub hj ((q2 j hj).2 hjn.2) hjn.1
      have e1 : sumK w (bB a o) a.length = tot n a w := ho.2.2
      have e2 : sumK w (bB a q) a.length = tot n a w := q1.2.2
      omega
    obtain ⟨x, x1, x2⟩ := hx
    refine Int.le_of_lt (cmpL_diff2 hascN (Bl_asc a o) (y := (j : Int)) (x := (x : Int)) (mem_nats.2 hjn.2) (fun hh => ?_) (mem_nats.2 x1) (by omega) fun z hz => ?_)
    · have := (mem_Bl.1 (mem_nats.1 hh)).2
      rw [hjn.1] at this; cases this
    · constructor
      · intro hh
        obtain ⟨m, rfl, hm⟩ := of_nats hh
        exact mem_nats.2 (mem_Bl.2 ⟨k.lt m hm, (hsame m (by omega)).2 hm⟩)
      · intro hh
        obtain ⟨m, rfl, hm⟩ := of_nats hh
        exact mem_nats.2 ((hsame m (by omega)).1 (mem_Bl.1 hm).2)
  · have : nats (lsK n a w a.length).1 = nats (Bl a o) := asc_ext hascN (Bl_asc a o) fun x => by
      have hall : ∀ j, j < a.length → (bB a o j = true ↔ j ∈ (lsK n a w a.length).1) := fun j hj => Classical.byContradiction fun hh => hd ⟨j, hj, hh⟩
      constructor
      · intro hx
        obtain ⟨j, rfl, hj⟩ := of_nats hx
        have := k.lt j hj
        exact mem_nats.2 (mem_Bl.2 ⟨this, (hall j this).2 hj⟩)
      · intro hx
        obtain ⟨j, rfl, hj⟩ := of_nats hx
        obtain ⟨h1, h2⟩ := mem_Bl.1 hj
        exact mem_nats.2 ((hall j h1).1 h2)
    rw [this, cmpL_self]
    exact Int.le_refl _
end
end Go.Proofs.YtidmekdkfiljjaaGreat
namespace Go.Proofs.YtidmekdkfiljjaaGreat
open Go Go.Abs
set_option linter.unusedSimpArgs false
set_option linter.unusedVariables false
set_option maxRecDepth 20000

theorem i64s_set (xs : List Int) (i : Nat) (v : Int) : i64s (xs.set i v) = (i64s xs).set i (I v) := by simp only [i64s, List.map_set]
end Go.Proofs.YtidmekdkfiljjaaGreat
namespace Go.Proofs.YtidmekdkfiljjaaGreat
open Go Go.Abs
set_option linter.unusedSimpArgs false
set_option linter.unusedVariables false
set_option maxRecDepth 20000

/-- What Smallest returns. -/
noncomputable def smV (n : Int) (a : List (Int × Int)) : AV := if Ev n a then (match smF a n.toNat with
  | none => .tup [.sl true 0 [] .full, I 7]
  | some s => .tup [.sl false s.length (i64s s) .unk, I 0]) else .tup [.sl true 0 [] .full, I 1]
/-! What is blamed. -/
noncomputable def blP (a : List (Int × Int)) (k : Nat) : Bool := decide (0 ≤ farZ a (tt a k) (fr a k))
noncomputable def blF (a : List (Int × Int)) (i : Nat) : List Nat := (List.range i).filter (blP a)
noncomputable def blV (n : Int) (a : List (Int × Int)) : AV := if Ev n a then .tup [gl (i64s (nats (blF a a.length))) (nats (blF a a.length)).length .unk, I 0] else .tup [.sl true 0 [] .full, I 1]
theorem blP_iff {n : Nat} {a : List (Int × Int)} (he : Ev n a) {k : Nat} (hk : k < a.length) : blP a k = true ↔ ∃ ks, ks ≠ [] ∧ IW a (tt a k) ks (fr a k) := by
  unfold blP
  rw [decide_eq_true_eq]
  obtain ⟨e1, e2, e3, e4⟩ := ev_k he hk
  rcases farZ_spec a (tt a k) (fr a k) with ⟨k1, k2⟩ | ⟨L, k1, k2, k3⟩
  · constructor
    · intro h; omega
    · rintro ⟨ks, h1, h2⟩; exact absurd ⟨ks, rfl, h2, fun _ _ => Nat.zero_le _⟩ (k2 ks.length)
  · constructor
    · intro _
      obtain ⟨ks, w1, w2, _⟩ := k2
      refine ⟨ks, fun hh => ?_, w2⟩
      subst hh
      exact e4 w2.symm
    · intro _; omega
theorem ix_whole (k : Nat) : Ix (k : Int) (nats (List.range k)) := by
  rw [ix_pw]
  refine ⟨fun x hx => ?_, ?_⟩
  · obtain ⟨j, rfl, hj⟩ := of_nats hx
    rw [List.mem_range] at hj
    omega
  · unfold nats
    rw [List.pairwise_map]
    exact (List.pairwise_lt_range).imp fun hab => by omega
theorem bl_bt {n : Nat} {a : List (Int × Int)} (he : Ev n a) {k : Nat} (hk : k < a.length) : bt (wr n (nxt n (sub a (nats (List.range a.length))) a.length) n) (tt a k) (fr a k) = blP a k := by
  obtain ⟨e1, e2, e3, e4⟩ := ev_k he hk
  have hix := ix_whole a.length
  have hsl : (sub a (nats (List.range a.length))).length = a.length := by rw [sub_len, nats_len, List.length_range]
  rw [Bool.eq_iff_iff, blP_iff he hk]
  have hlt := arcE_lt (sub_arc he hix)
  have h1 := wr_way (n := n) (nxt_len n (sub a (nats (List.range a.length))) a.length) (fun i j hij => hlt i j (by unfold arcE; rw [hsl]; exact hij)) e3 (j := fr a k)
  rw [h1]
  have h2 : BE (nxt n (sub a (nats (List.range a.length))) a.length) = arcE n (sub a (nats (List.range a.length))) := by unfold arcE; rw [hsl]
  rw [h2]
  constructor
  · intro h
    obtain ⟨ks, h3, h4, _⟩ := way_iw he hix h
    exact ⟨ks, h3, h4⟩
  · rintro ⟨ks, h3, h4⟩
    exact iw_way he hix h3 h4 fun j hj => mem_nats.2 (List.mem_range.2 (iw_lt h4 j hj))
end Go.Proofs.YtidmekdkfiljjaaGreat
namespace Go.Abs
open Go Go.Shelf Go.Proofs Go.RowKit Go.Maps Go.Sort
set_option linter.unusedSimpArgs false
set_option linter.unusedVariables false
variable {P : Program} {ρ : Ren}

/-- An iterator whose rounds keep what lay before: it gives these numbers, one by one. -/
def SeqV (F : Fence) (n : Nat) (P : Program) (g : Nat) (lb : Array Value) (xs : List Int) (w : World) : Prop :=
  ∀ (l : Nat) (J : List Int → World → Prop) (W : World), (∀ s X, J s X → Below w.heap.size w X) →
    (∀ pre x W1, J pre W1 → pre.length < xs.length → YieldAt F (n - 1) P l #[encZ x] W1 fun e W' => e = .returned (.bool true) ∧ J (pre ++ [x]) W') →
    J [] W → CallsIn F n P g (#[.func (.yield l) #[] #[]] ++ lb) W fun e W' => (∃ v, e = .returned v) ∧ J xs W'

set_option maxRecDepth 100000 in
set_option maxHeartbeats 2000000 in
theorem appendSeqV (L : SlLaysZI.n11 P ρ) (F : Fence) (n : Nat) (h11 : F.fn (ρ.f 11)) (hro : F.round = none) (hn : 2 ≤ n) (g : Nat) (lb : Array Value) (hFg : F.fn g) (eg : ∀ args w, (callFunc g args).run P w = .ok (.enter g args) w)
    (xs : List Int) (hN : xs.length ≤ maxLen) (hNb : xs.length * 8 ≤ 140737488355328) (w : World) (hseq : SeqV F (n - 1) P g lb xs w) :
    CallsIn F n P (ρ.f 11) #[.slice none 0 0, .func (.func g) #[] lb] w fun e w' => ∃ v : Value, e = .returned v ∧ w'.ownsRow w.heap.size (ρ.t 26) 1 v xs.length (xs.map encZ) ∧ (v = .slice none 0 0 ↔ xs = []) ∧ Below w.heap.size w w' := by
  have h1 : 1 ≤ n := by omega
  have mixed := L.mixed; have t0 := L.t0; have a0 := L.a0; have z0 := L.z0; have v0 := L.v0; have t24 := L.t24; have a24 := L.a24; have z24 := L.z24; have v24 := L.v24; have t26 := L.t26; have a26 := L.a26; have z26 := L.z26; have v26 := L.v26; have t28 := L.t28; have a28 := L.a28; have z28 := L.z28; have v28 := L.v28
  have hne : ρ.t 24 ≠ ρ.t 26 := fun e => by have h := L.t24; rw [e, L.t26] at h; cases h
  have u0 := run_underlying L.t0; have u24 := run_underlying L.t24; have u26 := run_underlying L.t26; have u28 := run_underlying L.t28
  obtain ⟨_, _, FG⟩ := L.f11
  refine callsIn_of_wp_marks FG rfl h11 ?_ hro
  simp only [SlBodyZ.n11_ntmps ρ, List.size_toArray, List.length_cons, List.length_nil, Nat.reduceAdd, Nat.reduceSub, Array.replicate_succ, Array.replicate_zero, List.push_toArray, List.append_toArray, List.nil_append, List.cons_append]
  gi_wp2
  refine wpIn_rangeFunc ?_
  intro fn hfn
  rw [hro]
  obtain ⟨W0, hW0⟩ : ∃ W0, w.alloc (.cells #[.slice none 0 0] (ρ.t 24)) = W0 := ⟨_, rfl⟩
  have hs0 : W0.heap.size = w.heap.size + 1 := by rw [← hW0]; simp
  have hv0 : W0.heap[w.heap.size]? = some (.cells #[.slice none 0 0] (ρ.t 24) (0, 0)) := by rw [← hW0]; exact World.alloc_heap_new w _
  have hb0 : Below w.heap.size w W0 := by rw [← hW0]; exact (Below.refl _ w).alloc (Nat.le_refl _) _
  rw [hW0]
  obtain ⟨W1, hW1⟩ : ∃ W1, (W0.alloc (.deferred (some []))).alloc (.loop (AnyZI.apRec ρ fn (.func (.func g) #[] lb) w.heap.size W0.heap.size .ready none)) = W1 := ⟨_, rfl⟩
  have hold : ∀ k, k < W0.heap.size → W1.heap[k]? = W0.heap[k]? := fun k hk => by
    rw [← hW1]; exact (Below.heap_alloc _ _ k (by simp; omega)).trans (Below.heap_alloc _ _ k hk)
  have hb1 : Below w.heap.size w W1 := by rw [← hW1]; exact (hb0.alloc hb0.size _).alloc (by have := hb0.size; simp; omega) _
  have hM : AnyZI.ApAt ρ w fn (.func (.func g) #[] lb) w.heap.size (W0.heap.size + 1) W0.heap.size [] W1 :=
    ⟨⟨_, (hold w.heap.size (by omega)).trans hv0, ⟨rfl, .inl ⟨rfl, rfl⟩⟩, by simp⟩,
     by rw [← hW1]; have := World.alloc_heap_new (W0.alloc (.deferred (some []))) (.loop (AnyZI.apRec ρ fn (.func (.func g) #[] lb) w.heap.size W0.heap.size .ready none)); rwa [World.size_alloc] at this,
     by rw [← hW1]; exact (Below.heap_alloc _ _ _ (by simp)).trans (World.alloc_heap_new W0 _), hb1⟩
  refine ⟨W0.heap.size + 1, [{ target := .collected W0.heap.size, args := #[] }], W1, { target := .fn (.func g) lb, args := #[.func (.yield (W0.heap.size + 1)) #[] #[]] }, W1, g,
    #[.func (.yield (W0.heap.size + 1)) #[] #[]] ++ lb, W1, ?_, ?_, ?_, ?_, fun _ => h1, ?_⟩
  · rw [← hW1]; exact run_enterLoop_outer _ _ _ _ _
  · simp [resolve, go_sem]
  · intro f' hf'; simp [Target.leads] at hf'; subst hf'; exact hFg
  · simp [invoke, go_sem, eg]
  · refine (hseq (W0.heap.size + 1) (AnyZI.ApAt ρ w fn (.func (.func g) #[] lb) w.heap.size (W0.heap.size + 1) W0.heap.size) W1 (fun s X h => h.below)
      (fun pre x W hJ hl => (AnyZI.apYield { L with } F (n - 1 - 1) w fn hfn _ w.heap.size (W0.heap.size + 1) W0.heap.size (by omega) (by omega) (by omega) (Nat.le_refl _) (by omega) xs.length hN hNb pre x W hJ hl).imp fun fn' ⟨tm, asg, bd, hy, hR⟩ => ⟨tm, asg, bd, hy, hR.mono fun e W' h => ⟨h.1, h.2.1⟩⟩) hM).mono ?_
    rintro e W2 ⟨⟨v0, rfl⟩, h2⟩
    obtain ⟨v, hv, hrow, hnil⟩ := h2.box
    have hend := run_endLoop (P := P) h2.L (by simp [AnyZI.apRec])
    obtain ⟨W3, hW3⟩ : ∃ W3, W2.putObj (W0.heap.size + 1) (.loop { AnyZI.apRec ρ fn (.func (.func g) #[] lb) w.heap.size W0.heap.size .ready none with state := .exhausted }) = W3 := ⟨_, rfl⟩
    rw [hW3] at hend
    have hg3 : W2.grownBy W3 (some (W0.heap.size + 1)) := by rw [← hW3]; exact grownBy_putObj_a _ _ _
    have hv3 : W3.heap[w.heap.size]? = some (.cells #[v] (ρ.t 24) (0, 0)) := by rw [← hW3]; exact (World.putObj_heap_other (by omega)).trans hv
    have hK3 : W3.heap[W0.heap.size]? = some (.deferred (some [])) := by rw [← hW3]; exact (World.putObj_heap_other (by omega)).trans h2.K
    have hrow3 := hrow.kept hg3 (ownsRow_ne_a hrow h2.L (fun cur e => by first | cases e | exact hne (Obj.cells.inj e).2.1))
    have hb3 : Below w.heap.size w W3 := h2.below.grown hg3 h2.below.size (fun k e => by cases e; omega)
    obtain ⟨hc3, hf3⟩ := cell_of_box_a hv3
    clear hW3
    refine ⟨none, W3, hend, ?_⟩
    gi_wp2
    rw [← hs0]
    refine ⟨by simp, .inl ⟨_, _, rfl, run_takeDeferred hK3, ?_⟩⟩
    exact ⟨_, results_tmp rfl _ _ _, v, rfl, hrow3.kept (grownBy_putObj_a _ _ _) (ownsRow_ne_a hrow3 hK3 (fun cur e => by first | cases e | exact hne (Obj.cells.inj e).2.1)), hnil, hb3.grown (grownBy_putObj_a _ _ _) hb3.size (fun k e => by cases e; omega)⟩

set_option maxHeartbeats 1000000 in
theorem collectV (L : SlLaysZI.n8 P ρ) (F : Fence) (n : Nat) (h8 : F.fn (ρ.f 8)) (h11 : F.fn (ρ.f 11)) (hro : F.round = none) (hn : 3 ≤ n) (g : Nat) (lb : Array Value) (hFg : F.fn g) (eg : ∀ args w, (callFunc g args).run P w = .ok (.enter g args) w)
    (xs : List Int) (hN : xs.length ≤ maxLen) (hNb : xs.length * 8 ≤ 140737488355328) (w : World) (hseq : SeqV F (n - 1 - 1) P g lb xs w) :
    CallsIn F n P (ρ.f 8) #[.func (.func g) #[] lb] w fun e w' => ∃ v : Value, e = .returned v ∧ w'.ownsRow w.heap.size (ρ.t 26) 1 v xs.length (xs.map encZ) ∧ (v = .slice none 0 0 ↔ xs = []) ∧ Below w.heap.size w w' := by
  have h1 : 1 ≤ n := by omega
  have e11 : ∀ args w, (callFunc (ρ.f 11) args).run P w = .ok (.enter (ρ.f 11) args) w := L.f11.enters rfl
  have mixed := L.mixed; have t0 := L.t0; have a0 := L.a0; have z0 := L.z0; have v0 := L.v0; have t24 := L.t24; have a24 := L.a24; have z24 := L.z24; have v24 := L.v24; have t26 := L.t26; have a26 := L.a26; have z26 := L.z26; have v26 := L.v26; have t28 := L.t28; have a28 := L.a28; have z28 := L.z28; have v28 := L.v28
  have u0 := run_underlying L.t0; have u24 := run_underlying L.t24; have u26 := run_underlying L.t26; have u28 := run_underlying L.t28
  obtain ⟨_, _, FG⟩ := L.f8
  refine callsIn_of_wp FG rfl h8 ?_ hro
  simp only [SlBodyZ.n8_ntmps ρ, List.size_toArray, List.length_cons, List.length_nil, Nat.reduceAdd, Nat.reduceSub, Array.replicate_succ, Array.replicate_zero, List.push_toArray, List.append_toArray, List.nil_append, List.cons_append]
  gi_wp2_with (gi_at_fn (ρ.f 11); refine (appendSeqV { L with } F (n - 1) h11 hro (by omega) g lb hFg eg xs hN hNb _ hseq).mono ?_; rintro e w' ⟨v, rfl, hrow, hnil, hb⟩)
  go_ret
  exact ⟨v, rfl, hrow, hnil, hb⟩

set_option maxRecDepth 100000 in
set_option maxHeartbeats 2000000 in
theorem sortedV (L : SlLaysZI.n6 P ρ) (F : Fence) (n : Nat) (h6 : F.fn (ρ.f 6)) (h8 : F.fn (ρ.f 8)) (h9 : F.fn (ρ.f 9)) (h11 : F.fn (ρ.f 11)) (hro : F.round = none) (hn : 4 ≤ n) (hsort : AnyZI.SortsIn P ρ F (n - 1)) (e9 : ∀ args w, (callFunc (ρ.f 9) args).run P w = .ok (.enter (ρ.f 9) args) w) (g : Nat) (lb : Array Value) (hFg : F.fn g) (eg : ∀ args w, (callFunc g args).run P w = .ok (.enter g args) w)
    (xs : List Int) (hN : xs.length ≤ maxLen) (hNb : xs.length * 8 ≤ 140737488355328) (w : World) (hseq : SeqV F (n - 1 - 1 - 1) P g lb xs w) :
    CallsIn F n P (ρ.f 6) #[.func (.func g) #[] lb] w fun e w' => ∃ v : Value, e = .returned v ∧
      w'.ownsRow w.heap.size (ρ.t 26) 1 v xs.length ((srt xs).map encZ) ∧ (v = .slice none 0 0 ↔ xs = []) ∧ Below w.heap.size w w' := by
  have h1 : 1 ≤ n := by omega
  have e8 : ∀ args w, (callFunc (ρ.f 8) args).run P w = .ok (.enter (ρ.f 8) args) w := L.f8.enters rfl
  have mixed := L.mixed; have t0 := L.t0; have a0 := L.a0; have z0 := L.z0; have v0 := L.v0; have t24 := L.t24; have a24 := L.a24; have z24 := L.z24; have v24 := L.v24; have t26 := L.t26; have a26 := L.a26; have z26 := L.z26; have v26 := L.v26; have t28 := L.t28; have a28 := L.a28; have z28 := L.z28; have v28 := L.v28
  have u0 := run_underlying L.t0; have u24 := run_underlying L.t24; have u26 := run_underlying L.t26; have u28 := run_underlying L.t28
  obtain ⟨_, _, FG⟩ := L.f6
  refine callsIn_of_wp FG rfl h6 ?_ hro
  simp only [SlBodyZ.n6_ntmps ρ, List.size_toArray, List.length_cons, List.length_nil, Nat.reduceAdd, Nat.reduceSub, Array.replicate_succ, Array.replicate_zero, List.push_toArray, List.append_toArray, List.nil_append, List.cons_append]
  gi_wp2_with (gi_at_fn (ρ.f 8); refine (collectV { L with } F (n - 1) h8 h11 hro (by omega) g lb hFg eg xs hN hNb _ hseq).mono ?_; rintro e W ⟨v, rfl, hrow, hnil, hb⟩)
  rcases hrow.2 with ⟨rfl, hz⟩ | ⟨gb, cap, cur, rfl, hbase, hgb, r1, r2, r3, r4⟩
  · have hss : xs = [] := List.eq_nil_of_length_eq_zero hz
    subst hss
    gi_wp2_with (gi_at_fn (ρ.f 9); refine (hsort.2 none 0 W).mono ?_; rintro e w' ⟨rfl, rfl⟩)
    go_ret
    exact ⟨.slice none 0 0, rfl, by simpa [srt] using hrow, by simp, hb⟩
  · have hH : Holds encZ W gb 0 xs.toArray := holds_of_block_i hgb (by simpa using r4)
    have hgl : gb < W.heap.size := (Array.getElem?_eq_some_iff.1 hgb).1
    have hsz : xs.length < 4611686018427387904 := by omega
    have cS := hsort.1 gb 0 cap xs W hH hgl hsz
    gi_wp2_with (gi_at_fn (ρ.f 9); refine cS.mono ?_; rintro e w' ⟨rfl, nn, os, rfl⟩)
    go_ret
    exact ⟨_, rfl, ownsRow_sorted_i (by simp) hbase hgb r1 r2 r3, hnil, hb.grown (grownBy_sorted_i _) hb.size (fun j hj => by cases hj; exact hbase)⟩

/-- A call with a new slice of whole numbers as its answer, on abstract values. -/
theorem rcall_of_row {f : FuncId} {args : List AV} {t : TypeId} {zs : List Int} (hz : ∀ x ∈ zs, InR .i64 x) (hok : callOK P f = true)
    (H : ∀ (s : Sg) (h : AH) (vs : List Value) (w : World), VRels s args vs → HSim s h w (ownOf s h) w → Calls P f vs.toArray w fun e w' => ∃ v : Value, e = .returned v ∧
      w'.ownsRow w.heap.size t 1 v zs.length (zs.map encZ) ∧ (v = .slice none 0 0 ↔ zs = []) ∧ Below w.heap.size w w') (h : AH) :
    RCall P f args h (.sl (decide (zs = [])) zs.length (i64s zs) .unk) := by
  intro h' hl
  refine ⟨hok, fun s vs w hv hs => ?_⟩
  refine (H s h' vs w hv hs).mono ?_
  rintro e w' ⟨v, rfl, hrow, hnil, hb⟩
  have hlat : Later w w' := ⟨hb.block, hb.size, hb.os, hb.tape, hb.output⟩
  rcases hrow.2 with ⟨rfl, hz0⟩ | ⟨gb, cap, cur, rfl, hbase, hgb, r1, r2, r3, r4⟩
  · have hss : zs = [] := List.eq_nil_of_length_eq_zero hz0
    subst hss
    exact ⟨s, _, _, h', Sg.le.refl s, hs.later hlat, rfl, .sl true 0 [] .unk none 0 [] rfl (by simp) (by simp) rfl (fun _ => ⟨rfl, rfl⟩) (by simp) (Nat.le_refl _) (by omega) trivial, by simp [i64s], rfl⟩
  · have hne : zs ≠ [] := fun hh => by have := hnil.2 hh; cases this
    obtain ⟨f1, f2, f3⟩ := hs.new_free hbase
    have hcur : ∀ j, j < zs.length → cur[j]? = some (.int .i64 (zs.getD j 0)) := fun j hj => by
      have e1 : (cur.toList.take (zs.length * 1))[j]? = (zs.map encZ)[j]? := by rw [r4]
      rw [List.getElem?_take, if_pos (by omega)] at e1
      simp only [Array.getElem?_toList] at e1
      rw [e1]
      simp [encZ, hj, List.getD]
    obtain ⟨a1, a2⟩ := (hs.later hlat).addFx hgb (zs.map fun x => Value.int .i64 x) (fun j v hj => by
      by_cases hjz : j < zs.length
      · rw [hcur j hjz]
        simp [hjz] at hj
        simp [hjz, List.getD, hj]
      · simp [show zs.length ≤ j by omega] at hj) (fun v hv => by obtain ⟨x, _, rfl⟩ := List.mem_map.1 hv; rfl) f1 f2 f3
    refine ⟨_, _, _, h', a1, a2, rfl, ?_, rfl, rfl⟩
    have hd : decide (zs = []) = false := decide_eq_false hne
    rw [hd]
    refine .sl false zs.length (i64s zs) .unk (some ⟨gb, 0, none⟩) cap (zs.map fun x => Value.int .i64 x) (by simp [i64s]) (fun j x u hx hu => ?_) (fun j u hu => ⟨_, rfl, rfl, ?_⟩) rfl (by simp) (fun ad h _ => by cases h; rfl) r1 (by have := r2; simp only [maxLen] at this; omega) trivial
    · by_cases hjz : j < zs.length
      · simp [i64s, hjz] at hx hu
        rw [← hx, ← hu]
        exact .int .i64 _ (hz _ (List.getElem_mem hjz))
      · simp [i64s, show zs.length ≤ j by omega] at hx
    · simp only [Sg.fxNew, if_pos rfl, Nat.zero_add]
      exact hu
end Go.Abs
namespace Go.Proofs.YtidmekdkfiljjaaGreat
open Go Go.Abs Go.Shelf Go.Proofs
set_option maxRecDepth 100000
def roF : Nat → Nat
  | 125 => 70
  | 128 => 84
  | 129 => 85
  | 189 => 61
  | 215 => 71
  | 216 => 92
  | 257 => 73
  | 294 => 86
  | 295 => 87
  | 296 => 88
  | 297 => 89
  | 298 => 90
  | 299 => 91
  | 300 => 93
  | 301 => 94
  | 328 => 100
  | 329 => 96
  | 330 => 97
  | 331 => 101
  | 332 => 102
  | 343 => 104
  | _ => 0
def roT : Nat → Nat
  | 0 => 0
  | 3 => 3
  | 4 => 4
  | 5 => 5
  | 9 => 9
  | 28 => 30
  | 46 => 108
  | 51 => 63
  | 53 => 124
  | 131 => 120
  | 182 => 115
  | 183 => 116
  | 218 => 131
  | 222 => 135
  | 228 => 139
  | 229 => 112
  | _ => 0
def ro : Ren := ⟨roF, roT, fun x => x⟩
theorem sortLays : Lays.n189 Tryz.prog ro where
  mixed := by kernel_rfl
  f125 := by kernel_rfl
  f128 := by kernel_rfl
  f129 := by kernel_rfl
  f189 := by kernel_rfl
  f215 := by kernel_rfl
  f216 := by kernel_rfl
  f257 := by kernel_rfl
  f294 := by kernel_rfl
  f295 := by kernel_rfl
  f296 := by kernel_rfl
  f297 := by kernel_rfl
  f298 := by kernel_rfl
  f299 := by kernel_rfl
  f300 := by kernel_rfl
  f301 := by kernel_rfl
  f328 := by kernel_rfl
  f329 := by kernel_rfl
  f330 := by kernel_rfl
  f331 := by kernel_rfl
  f332 := by kernel_rfl
  f343 := by kernel_rfl
  t0 := Tryz.underlying0
  a0 := Tryz.isAgg0
  z0 := Tryz.sizeOf0
  v0 := Tryz.zeroValue0
  t3 := Tryz.underlying3
  a3 := Tryz.isAgg3
  z3 := Tryz.sizeOf3
  v3 := Tryz.zeroValue3
  t4 := Tryz.underlying4
  a4 := Tryz.isAgg4
  z4 := Tryz.sizeOf4
  v4 := Tryz.zeroValue4
  t5 := Tryz.underlying5
  a5 := Tryz.isAgg5
  z5 := Tryz.sizeOf5
  v5 := Tryz.zeroValue5
  t9 := Tryz.underlying9
  a9 := Tryz.isAgg9
  z9 := Tryz.sizeOf9
  v9 := Tryz.zeroValue9
  t28 := Tryz.underlying30
  a28 := Tryz.isAgg30
  z28 := Tryz.sizeOf30
  v28 := Tryz.zeroValue30
  t46 := Tryz.underlying108
  a46 := Tryz.isAgg108
  z46 := Tryz.sizeOf108
  v46 := Tryz.zeroValue108
  t51 := Tryz.underlying63
  a51 := Tryz.isAgg63
  z51 := Tryz.sizeOf63
  v51 := Tryz.zeroValue63
  t53 := Tryz.underlying124
  a53 := Tryz.isAgg124
  z53 := Tryz.sizeOf124
  v53 := Tryz.zeroValue124
  t131 := Tryz.underlying120
  a131 := Tryz.isAgg120
  z131 := Tryz.sizeOf120
  v131 := Tryz.zeroValue120
  t182 := Tryz.underlying115
  a182 := Tryz.isAgg115
  z182 := Tryz.sizeOf115
  v182 := Tryz.zeroValue115
  t183 := Tryz.underlying116
  a183 := Tryz.isAgg116
  z183 := Tryz.sizeOf116
  v183 := Tryz.zeroValue116
  t218 := Tryz.underlying131
  a218 := Tryz.isAgg131
  z218 := Tryz.sizeOf131
  v218 := Tryz.zeroValue131
  t222 := Tryz.underlying135
  a222 := Tryz.isAgg135
  z222 := Tryz.sizeOf135
  v222 := Tryz.zeroValue135
  t228 := Tryz.underlying139
  a228 := Tryz.isAgg139
  z228 := Tryz.sizeOf139
  v228 := Tryz.zeroValue139
  t229 := Tryz.underlying112
  a229 := Tryz.isAgg112
  z229 := Tryz.sizeOf112
  v229 := Tryz.zeroValue112
end Go.Proofs.YtidmekdkfiljjaaGreat
