/- Triples of whole numbers put in order by Go's SortFunc, and a new row of triples as an answer on abstract values. No condition but that the program has these functions of Go's library. -/
import Derived.Test.YtkoecjhjdckgeaaV3
import Derived.Shelf.SlSortCmp.NoneTotal
namespace Go.Proofs.Ytkoecjhjdckgeaa
open Go Go.Abs Go.Shelf Go.Proofs Go.RowKit Go.Maps Go.Sort
set_option linter.unusedSimpArgs false
set_option linter.unusedVariables false
variable {P : Program} {ρ : Ren}

theorem e3_len (x : Int × Int × Int) : (e3 x).length = 3 := rfl
theorem e3_one (x : Int × Int × Int) : ∀ v ∈ e3 x, v.oneCell' = true := by simp [e3, Value.oneCell']
theorem f3_cons (x : Int × Int × Int) (l : List (Int × Int × Int)) : f3 (x :: l) = .int .i64 x.1 :: .int .i64 x.2.1 :: .int .i64 x.2.2 :: f3 l := rfl
theorem f3_len (l : List (Int × Int × Int)) : (f3 l).length = l.length * 3 := by
  induction l with
  | nil => rfl
  | cons x l ih => rw [f3_cons]; simp only [List.length_cons, ih]; omega
theorem f3_get {l : List (Int × Int × Int)} : ∀ {t : Nat}, t < l.length * 3 → (f3 l)[t]? = some ((e3 (l.getD (t / 3) (0, 0, 0)))[t % 3]!) := by
  induction l with
  | nil => intro t h; simp at h
  | cons x l ih =>
    intro t h
    rw [f3_cons]
    match t, h with
    | 0, _ => rfl
    | 1, _ => rfl
    | 2, _ => rfl
    | t + 3, h =>
      simp only [List.getElem?_cons_succ]
      have ht : t < l.length * 3 := by simp only [List.length_cons] at h; omega
      rw [ih ht, show (t + 3) / 3 = t / 3 + 1 by omega, show (t + 3) % 3 = t % 3 by omega]
      simp
theorem flat3_get {l : List (Int × Int × Int)} {t : Nat} (h : t < l.length * 3) : (flatK e3 3 l.toArray)[t]! = (e3 (l.getD (t / 3) (0, 0, 0)))[t % 3]! := by
  rw [get_flatK _ _ _ _ (by simpa using h)]
  congr 2
  have : t / 3 < l.length := by omega
  simp [List.getD, this]
theorem holds3 {w : World} {g : Nat} {cur : Array Value} {e : TypeId} {ss : List (Int × Int × Int)} (hb : w.heap[g]? = some (.cells cur e (0, 0))) (ht : cur.toList.take (ss.length * 3) = f3 ss) : HoldsK e3 3 w g 0 ss.toArray := by
  intro j hj
  have hj' : j < ss.length * 3 := by simpa using hj
  refine ⟨?_, by simp [World.frozen?, hb]⟩
  have h1 : (cur.toList.take (ss.length * 3))[j]? = (f3 ss)[j]? := by rw [ht]
  rw [List.getElem?_take_of_lt hj', f3_get hj'] at h1
  simp only [World.cell?, hb, Nat.zero_add]
  simp only [Option.isSome_none, Bool.false_eq_true, if_false]
  rw [← Array.getElem?_toList, h1, flat3_get hj']
  rfl
theorem heap3 {w : World} {g n : Nat} {os : Array Obj} {cur : Array Value} {e : TypeId} {fr : Nat × Nat} (d : Array (Int × Int × Int)) (hb : w.heap[g]? = some (.cells cur e fr)) :
    (sortWorldK e3 3 w g 0 n d os).heap[g]? = some (.cells (putCells id 0 (flatK e3 3 d) cur) e fr) := by
  have hg : g < w.heap.size := (Array.getElem?_eq_some_iff.1 hb).1
  unfold sortWorldK putRowK
  rw [heap_grow_old _ _ (by simpa using hg)]
  simp [putRow, mapBlock, Sort.ahead, Array.getElem?_modify, hb, onCells]
theorem grownBy3 {w : World} {g n : Nat} {os : Array Obj} (d : Array (Int × Int × Int)) : w.grownBy (sortWorldK e3 3 w g 0 n d os) (some g) := by
  unfold sortWorldK putRowK
  refine ⟨rfl, rfl, rfl, by simp, fun k hk hne => ?_⟩
  rw [heap_grow_old _ _ (by simpa using hk)]
  have : g ≠ k := fun e => hne (by rw [e])
  simp [putRow, mapBlock, Sort.ahead, Array.getElem?_modify, this]
theorem take_putCells3 (cur : Array Value) (ts : List (Int × Int × Int)) (h : ts.length * 3 ≤ cur.size) : (putCells id 0 (flatK e3 3 ts.toArray) cur).toList.take (ts.length * 3) = f3 ts := by
  apply List.ext_getElem?
  intro j
  by_cases hj : j < ts.length * 3
  · rw [List.getElem?_take_of_lt hj, Array.getElem?_toList, f3_get hj, ← flat3_get hj]
    simp [putCells, hj, show j < cur.size by omega]
  · rw [List.getElem?_take_eq_none (by omega), List.getElem?_eq_none (by rw [f3_len]; omega)]
theorem ownsRow3 {w : World} {base g cap n : Nat} {e : TypeId} {os : Array Obj} {cur : Array Value} {ss ts : List (Int × Int × Int)} (hl : ts.length = ss.length) (hbase : base ≤ g) (hb : w.heap[g]? = some (.cells cur e (0, 0)))
    (h1 : ss.length ≤ cap) (h2 : cap ≤ maxLen) (h3 : cur.size = cap * 3) :
    (sortWorldK e3 3 w g 0 n ts.toArray os).ownsRow base e 3 (.slice (some ⟨g, 0, none⟩) ss.length cap) ss.length (f3 ts) :=
  ⟨by rw [f3_len, hl], .inr ⟨g, cap, _, rfl, hbase, heap3 _ hb, h1, h2, by simp [putCells, h3], by rw [← hl]; exact take_putCells3 cur ts (by omega)⟩⟩

theorem trs_rel {s : Sg} : ∀ {zs : List (Int × Int × Int)}, (∀ x ∈ zs, InR .i64 x.1 ∧ InR .i64 x.2.1 ∧ InR .i64 x.2.2) → VRels s (trs zs) (f3 zs) := by
  intro zs
  induction zs with
  | nil => intro _; exact .nil s
  | cons x l ih =>
    intro h
    obtain ⟨h1, h2, h3⟩ := h x (by simp)
    rw [f3_cons]
    exact .cons (.int _ _ h1) (.cons (.int _ _ h2) (.cons (.int _ _ h3) (ih fun y hy => h y (by simp [hy]))))
/-- A call with a new slice of triples as its answer, on abstract values. -/
theorem rcall_of_row3 {f : FuncId} {args : List AV} {t : TypeId} {zs : List (Int × Int × Int)} (hz : ∀ x ∈ zs, InR .i64 x.1 ∧ InR .i64 x.2.1 ∧ InR .i64 x.2.2) (hok : callOK P f = true)
    (H : ∀ (s : Sg) (h : AH) (vs : List Value) (w : World), VRels s args vs → HSim s h w (ownOf s h) w → Calls P f vs.toArray w fun e w' => ∃ v : Value, e = .returned v ∧
      w'.ownsRow w.heap.size t 3 v zs.length (f3 zs) ∧ (v = .slice none 0 0 ↔ zs = []) ∧ Below w.heap.size w w') (h : AH) :
    RCall P f args h (.sl (decide (zs = [])) zs.length (trs zs) .unk) := by
  intro h' hl
  refine ⟨hok, fun s vs w hv hs => ?_⟩
  refine (H s h' vs w hv hs).mono ?_
  rintro e w' ⟨v, rfl, hrow, hnil, hb⟩
  have hlat : Later w w' := ⟨hb.block, hb.size, hb.os, hb.tape, hb.output⟩
  rcases hrow.2 with ⟨rfl, hz0⟩ | ⟨gb, cap, cur, rfl, hbase, hgb, r1, r2, r3, r4⟩
  · have hss : zs = [] := List.eq_nil_of_length_eq_zero hz0
    subst hss
    exact ⟨s, _, _, h', Sg.le.refl s, hs.later hlat, rfl, .sl true 0 [] .unk none 0 [] rfl (by simp) (by simp) rfl (fun _ => ⟨rfl, rfl⟩) (by simp) (Nat.le_refl _) (by omega) trivial, by simp [trs], rfl⟩
  · have hne : zs ≠ [] := fun hh => by have := hnil.2 hh; cases this
    obtain ⟨f1, f2, f3'⟩ := hs.new_free hbase
    have hcur : ∀ j v, (f3 zs)[j]? = some v → cur[j]? = some v := fun j v hj => by
      have hjl : j < zs.length * 3 := by
        have := (List.getElem?_eq_some_iff.1 hj).1
        rwa [f3_len] at this
      have e1 : (cur.toList.take (zs.length * 3))[j]? = (f3 zs)[j]? := by rw [r4]
      rw [List.getElem?_take, if_pos hjl] at e1
      simp only [Array.getElem?_toList] at e1
      rw [e1, hj]
    have hone : ∀ v ∈ f3 zs, v.oneCell' = true := fun v hv => by
      obtain ⟨x, _, hx⟩ := List.mem_flatMap.1 hv
      exact e3_one x v hx
    obtain ⟨a1, a2⟩ := (hs.later hlat).addFx hgb (f3 zs) hcur hone f1 f2 f3'
    have hrel := trs_rel (s := s) hz
    refine ⟨_, _, _, h', a1, a2, rfl, ?_, rfl, rfl⟩
    have hd : decide (zs = []) = false := decide_eq_false hne
    rw [hd]
    refine .sl false zs.length (trs zs) .unk (some ⟨gb, 0, none⟩) cap (f3 zs) (by rw [f3_len, trs_len]) (fun j x u hx hu => ((trs_rel (s := _) hz).2 j x u hx hu)) (fun j u hu => ⟨_, rfl, rfl, ?_⟩) rfl (by simp) (fun ad h _ => by cases h; rfl) r1 (by have := r2; simp only [maxLen] at this; omega) trivial
    simp only [Sg.fxNew, if_pos rfl, Nat.zero_add]
    exact hu
end Go.Proofs.Ytkoecjhjdckgeaa
