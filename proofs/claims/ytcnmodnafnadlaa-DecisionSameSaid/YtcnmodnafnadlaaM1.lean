/- Loops over maps, step by step: whatever entry comes next, each comes once. No condition. -/
import Derived.Sort.MapsRangeIn
import Derived.RangeFuncGives
namespace Go.Abs
open Go Go.RowKit Go.Maps
open Go.ChangeMaps (setBlock)
set_option linter.unusedSimpArgs false
set_option linter.unusedVariables false

theorem setBlock_grown {w w1 : World} (h : w1 = w ∨ w1 = w.drew) (r : Nat) (o : Obj) : w.grownBy (setBlock w1 r o) (some r) := by
  have key : ∀ w : World, w.grownBy (setBlock w r o) (some r) := fun w => by
    refine ⟨rfl, rfl, rfl, ?_, fun k hk hne => ?_⟩
    · simp [setBlock]
    · have hne : r ≠ k := fun e => hne (by rw [e])
      simp [setBlock, Array.getElem?_setIfInBounds, hne]
  rcases h with rfl | rfl
  · exact key _
  · exact ⟨rfl, rfl, rfl, (key w).size, (key w).block⟩
theorem setBlock_same {w w1 : World} (h : w1 = w ∨ w1 = w.drew) {r : Nat} {o' : Obj} (hr : w.heap[r]? = some o') (o : Obj) : (setBlock w1 r o).heap[r]? = some o := by
  have hlt := (Array.getElem?_eq_some_iff.1 hr).1
  have key : (setBlock w r o).heap[r]? = some o := by simp [setBlock, hlt]
  rcases h with rfl | rfl
  · exact key
  · exact key
/-- No entry is left. -/
def Left0 (es : Array MapEntry) (seen : Array Nat) : Prop := (leftOf es seen).size = 0
/-- An entry has come. -/
structure NextW (w : World) (r c since ck : Nat) (seen : Array Nat) (es : Array MapEntry) (x : MapEntry) (W : World) : Prop where
  mem : x ∈ (leftOf es seen).toList
  grown : w.grownBy W (some r)
  same : W.heap[r]? = some (.mapIter (some c) since (seen.push x.born) ck)
section
variable {F : Fence} {n : Nat} {P : Program} (w : World) {ops : Array Oper} {rest : List Oper} {o : Oper} {a : Act} {Q : Exit → Act → World → Prop}
theorem wpListIn_range_raw (hg : o.guard = none) (m : Operand) (t : TypeId) (hop : o.op = Op.range t m) (k e : TypeId) (ht : P.underlying t = some (.map k e)) (c : Nat) (es : Array MapEntry) (ck : Nat)
    (hm : a.eval m = .map (some c)) (hb : w.heap[c]? = some (.map es ck))
    (hK : wpListIn F n P ops Q rest (a.put o.dst (.pointer (some ⟨w.heap.size, 0, none⟩))) (w.alloc (.mapIter (some c) ck #[] ck))) :
    wpListIn F n P ops Q (o :: rest) a w := by
  refine wpListIn_plain hg fun K' hK' => ?_
  have hrun := run_range_map (P := P) w t k e c es ck ht hb
  unfold Oper.wpIn
  refine ⟨by simp [Oper.about, hop], ?_⟩
  rw [Oper.semAt_plain F _ _ (by rw [hop]; intro c hc'; cases hc')]
  simp [execOp, hop, hm, hrun, Result.andThen]
  exact hK' _ _ hK
theorem wpListIn_next_raw (hg : o.guard = none) (it : Operand) (hop : o.op = Op.next it false) (r c since c0 : Nat) (seen : Array Nat) (es : Array MapEntry) (ck : Nat)
    (hit : a.eval it = .pointer (some ⟨r, 0, none⟩)) (hr : w.heap[r]? = some (.mapIter (some c) since seen c0)) (hb : w.heap[c]? = some (.map es ck)) (hold : ∀ x ∈ es.toList, x.born < since) (hsc : since ≤ c0)
    (hDone : Left0 es seen → wpListIn F n P ops Q rest (a.put o.dst (.tuple #[.bool false])) w)
    (hMore : ∀ (x : MapEntry) (W : World), NextW w r c since ck seen es x W → wpListIn F n P ops Q rest (a.put o.dst (.tuple #[.bool true, x.key, x.val])) W) :
    wpListIn F n P ops Q (o :: rest) a w := by
  refine wpListIn_plain hg fun K' hK' => ?_
  unfold Oper.wpIn
  refine ⟨by simp [Oper.about, hop], ?_⟩
  rw [Oper.semAt_plain F _ _ (by rw [hop]; intro c hc'; cases hc')]
  rcases run_next_at (P := P) w o.type r c since c0 seen es ck hr hb hold hsc with ⟨h0, hrun⟩ | ⟨x, hx, w1, hw1, hrun⟩
  · simp [execOp, hop, hit, hrun, Result.andThen]
    exact hK' _ _ (hDone h0)
  · simp [execOp, hop, hit, hrun, Result.andThen]
    exact hK' _ _ (hMore x _ ⟨hx, setBlock_grown hw1 r _, setBlock_same hw1 hr _⟩)
end
/-- How many entries an iterator has given. -/
def iterSeen (w : World) (r : Nat) : Nat := match w.heap[r]? with
  | some (.mapIter _ _ seen _) => seen.size
  | _ => 0
theorem iterSeen_eq {w : World} {r : Nat} {c : Option Nat} {since c0 : Nat} {seen : Array Nat} (h : w.heap[r]? = some (.mapIter c since seen c0)) : iterSeen w r = seen.size := by unfold iterSeen; rw [h]

theorem perm_of_mem {α : Type} : ∀ {l1 l2 : List α}, l1.Nodup → l2.Nodup → (∀ x, x ∈ l1 ↔ x ∈ l2) → l1.Perm l2 := by
  intro l1
  induction l1 with
  | nil =>
    intro l2 _ _ h
    cases l2 with
    | nil => exact .nil
    | cons y l2 => exact absurd ((h y).2 (by simp)) (by simp)
  | cons x l1 ih =>
    intro l2 h1 h2 h
    obtain ⟨s, t, rfl⟩ := List.append_of_mem ((h x).1 (by simp))
    have h3 : (x :: (s ++ t)).Nodup := (List.perm_middle.nodup_iff).1 h2
    obtain ⟨h4, h5⟩ := List.nodup_cons.1 h3
    obtain ⟨h6, h7⟩ := List.nodup_cons.1 h1
    refine ((ih h7 h5 fun y => ?_).cons x).trans List.perm_middle.symm
    constructor
    · intro hy
      have := (h y).1 (by simp [hy])
      rw [List.mem_append, List.mem_cons] at this
      rw [List.mem_append]
      rcases this with a | rfl | a
      · exact .inl a
      · exact absurd hy h6
      · exact .inr a
    · intro hy
      have := (h y).2 (by
        rw [List.mem_append] at hy
        rw [List.mem_append, List.mem_cons]
        rcases hy with a | a
        · exact .inl a
        · exact .inr (.inr a))
      rcases List.mem_cons.1 this with rfl | a
      · exact absurd hy h4
      · exact a
theorem nodup_of_map {α β : Type} (f : α → β) {l : List α} (h : (l.map f).Nodup) : l.Nodup := by
  rw [List.nodup_iff_pairwise_ne, List.pairwise_map] at h
  exact List.nodup_iff_pairwise_ne.2 (h.imp fun hh e => hh (by rw [e]))
theorem len_of_sub {α : Type} : ∀ {l1 l2 : List α}, l1.Nodup → (∀ x ∈ l1, x ∈ l2) → l1.length ≤ l2.length := by
  intro l1
  induction l1 with
  | nil => intro l2 _ _; exact Nat.zero_le _
  | cons x l1 ih =>
    intro l2 h1 h
    obtain ⟨s, t, rfl⟩ := List.append_of_mem (h x (by simp))
    obtain ⟨h6, h7⟩ := List.nodup_cons.1 h1
    have := ih (l2 := s ++ t) h7 fun y hy => by
      have := h y (by simp [hy])
      rw [List.mem_append, List.mem_cons] at this
      rw [List.mem_append]
      rcases this with a | rfl | a
      · exact .inl a
      · exact absurd hy h6
      · exact .inr a
    simp only [List.length_append, List.length_cons] at this ⊢
    omega
/-- What an iterator has given so far, of entries with their meaning. -/
structure MIt {α : Type} (T got : List (MapEntry × α)) (seen : Array Nat) : Prop where
  sub : ∀ x ∈ got, x ∈ T
  nd : (got.map (·.1.born)).Nodup
  seen : seen.toList = got.map (·.1.born)
theorem MIt.start {α : Type} (T : List (MapEntry × α)) : MIt T [] #[] := ⟨fun x h => (by cases h), List.nodup_nil, rfl⟩
theorem mem_leftOf {es : Array MapEntry} {seen : Array Nat} {x : MapEntry} : x ∈ (leftOf es seen).toList ↔ x ∈ es.toList ∧ x.born ∉ seen.toList := by
  unfold leftOf
  simp
section
variable {α : Type} {T got : List (MapEntry × α)} {seen : Array Nat} {es : Array MapEntry} (hT : T.map (·.1) = es.toList) (hnd : (es.toList.map (·.born)).Nodup)
include hT hnd
theorem MIt.ndT : (T.map (·.1.born)).Nodup := by
  have e : T.map (·.1.born) = (T.map (·.1)).map (·.born) := by rw [List.map_map]; rfl
  rw [e, hT]; exact hnd
omit hnd in
theorem MIt.step (h : MIt T got seen) {x : MapEntry} (hx : x ∈ (leftOf es seen).toList) : ∃ y : α, (x, y) ∈ T ∧ MIt T (got ++ [(x, y)]) (seen.push x.born) ∧ got.length < T.length := by
  obtain ⟨h1, h2⟩ := mem_leftOf.1 hx
  rw [← hT] at h1
  obtain ⟨⟨x', y⟩, h3, rfl⟩ := List.mem_map.1 h1
  refine ⟨y, h3, ⟨fun z hz => ?_, ?_, ?_⟩, ?_⟩
  · rcases List.mem_append.1 hz with hz | hz
    · exact h.sub z hz
    · rw [List.mem_singleton.1 hz]; exact h3
  · rw [List.map_append, List.map_singleton]
    refine List.nodup_append.2 ⟨h.nd, by simp, fun b hb c hc => ?_⟩
    rw [List.mem_singleton.1 hc]
    rintro rfl
    rw [← h.seen] at hb
    exact h2 hb
  · rw [Array.toList_push, h.seen, List.map_append, List.map_singleton]
  · have h5 : ((x' :: got.map (·.1)).map (·.born)).Nodup := by
      rw [List.map_cons, List.nodup_cons, List.map_map]
      refine ⟨fun hh => h2 ?_, h.nd⟩
      rw [h.seen]
      exact hh
    have h6 : ((x', y) :: got).Nodup := by
      have : (((x', y) :: got).map (fun z => z.1.born)).Nodup := by rw [List.map_cons] at h5 ⊢; rw [List.map_map] at h5; exact h5
      exact nodup_of_map _ this
    have h7 := len_of_sub h6 (fun z hz => by
      rcases List.mem_cons.1 hz with rfl | hz
      · exact h3
      · exact h.sub z hz)
    simp only [List.length_cons] at h7
    omega
theorem MIt.done (h : MIt T got seen) (h0 : Left0 es seen) : got.Perm T := by
  have hTn : T.Nodup := nodup_of_map _ (MIt.ndT hT hnd)
  refine perm_of_mem (nodup_of_map _ h.nd) hTn fun z => ⟨h.sub z, fun hz => ?_⟩
  have h1 : z.1 ∈ es.toList := by rw [← hT]; exact List.mem_map.2 ⟨z, hz, rfl⟩
  have h2 : z.1.born ∈ seen.toList := by
    refine Classical.byContradiction fun hh => ?_
    have h3 : z.1 ∈ (leftOf es seen).toList := mem_leftOf.2 ⟨h1, hh⟩
    rw [Array.eq_empty_of_size_eq_zero (xs := leftOf es seen) h0] at h3
    cases h3
  rw [h.seen] at h2
  obtain ⟨g, hg, e⟩ := List.mem_map.1 h2
  have hgz : g = z := by
    have hn := MIt.ndT hT hnd
    have hgT := h.sub g hg
    obtain ⟨i, hi, rfl⟩ := List.getElem_of_mem hgT
    obtain ⟨j, hj, rfl⟩ := List.getElem_of_mem hz
    have : i = j := (List.getElem_inj hn (i := i) (j := j) (h₀ := by simpa using hi) (h₁ := by simpa using hj)).1 (by simpa using e)
    subst this
    rfl
  rw [← hgz]; exact hg
end
end Go.Abs
