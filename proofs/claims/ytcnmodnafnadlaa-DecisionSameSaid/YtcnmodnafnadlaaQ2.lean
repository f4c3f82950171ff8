/- Marks put in order: rows, the iterator over a map, and a new row of marks as an answer on abstract values. No condition but that the program has these functions of Go's library. -/
import Derived.Test.YtcnmodnafnadlaaU2
import Derived.Test.YtcnmodnafnadlaaM2
import Derived.Test.YtcnmodnafnadlaaD0
import Derived.Shelf.SlSortCmp.WholeK
import Derived.Shelf.SlSortCmp.NoneTotal
namespace Go.Proofs.Ytcnmodnafnadlaa
set_option maxRecDepth 100000
open Go Go.Abs Go.Shelf Go.Proofs Go.RowKit Go.Maps Go.Sort
open Go.ChangeMaps (setBlock)
set_option linter.unusedSimpArgs false
set_option linter.unusedVariables false
variable {P : Program} {ρ : Ren}
theorem e2_len (x : (Int × Int)) : (e2 x).length = 2 := rfl
theorem e2_one (x : (Int × Int)) : ∀ v ∈ e2 x, v.oneCell' = true := by simp [e2, Value.oneCell']
theorem f2_cons (x : (Int × Int)) (l : List (Int × Int)) : f2 (x :: l) = .int .i64 x.1 :: .int .i64 x.2 :: f2 l := rfl
theorem f2_len (l : List (Int × Int)) : (f2 l).length = l.length * 2 := by
  induction l with
  | nil => rfl
  | cons x l ih => rw [f2_cons]; simp only [List.length_cons, ih]; omega
theorem f2_get {l : List (Int × Int)} : ∀ {t : Nat}, t < l.length * 2 → (f2 l)[t]? = some ((e2 (l.getD (t / 2) (0, 0)))[t % 2]!) := by
  induction l with
  | nil => intro t h; simp at h
  | cons x l ih =>
    intro t h
    rw [f2_cons]
    match t, h with
    | 0, _ => rfl
    | 1, _ => rfl
    | t + 2, h =>
      simp only [List.getElem?_cons_succ]
      have ht : t < l.length * 2 := by simp only [List.length_cons] at h; omega
      rw [ih ht, show (t + 2) / 2 = t / 2 + 1 by omega, show (t + 2) % 2 = t % 2 by omega]
      simp
theorem flat2_get {l : List (Int × Int)} {t : Nat} (h : t < l.length * 2) : (flatK e2 2 l.toArray)[t]! = (e2 (l.getD (t / 2) (0, 0)))[t % 2]! := by
  rw [get_flatK _ _ _ _ (by simpa using h)]
  congr 2
  have : t / 2 < l.length := by omega
  simp [List.getD, this]
theorem holds2 {w : World} {g : Nat} {cur : Array Value} {e : TypeId} {ss : List (Int × Int)} (hb : w.heap[g]? = some (.cells cur e (0, 0))) (ht : cur.toList.take (ss.length * 2) = f2 ss) : HoldsK e2 2 w g 0 ss.toArray := by
  intro j hj
  have hj' : j < ss.length * 2 := by simpa using hj
  refine ⟨?_, by simp [World.frozen?, hb]⟩
  have h1 : (cur.toList.take (ss.length * 2))[j]? = (f2 ss)[j]? := by rw [ht]
  rw [List.getElem?_take_of_lt hj', f2_get hj'] at h1
  simp only [World.cell?, hb, Nat.zero_add]
  simp only [Option.isSome_none, Bool.false_eq_true, if_false]
  rw [← Array.getElem?_toList, h1, flat2_get hj']
  rfl
theorem heap2 {w : World} {g n : Nat} {os : Array Obj} {cur : Array Value} {e : TypeId} {fr : Nat × Nat} (d : Array (Int × Int)) (hb : w.heap[g]? = some (.cells cur e fr)) :
    (sortWorldK e2 2 w g 0 n d os).heap[g]? = some (.cells (putCells id 0 (flatK e2 2 d) cur) e fr) := by
  have hg : g < w.heap.size := (Array.getElem?_eq_some_iff.1 hb).1
  unfold sortWorldK putRowK
  rw [heap_grow_old _ _ (by simpa using hg)]
  simp [putRow, mapBlock, Sort.ahead, Array.getElem?_modify, hb, onCells]
theorem grownBy2 {w : World} {g n : Nat} {os : Array Obj} (d : Array (Int × Int)) : w.grownBy (sortWorldK e2 2 w g 0 n d os) (some g) := by
  unfold sortWorldK putRowK
  refine ⟨rfl, rfl, rfl, by simp, fun k hk hne => ?_⟩
  rw [heap_grow_old _ _ (by simpa using hk)]
  have : g ≠ k := fun e => hne (by rw [e])
  simp [putRow, mapBlock, Sort.ahead, Array.getElem?_modify, this]
theorem take_putCells2 (cur : Array Value) (ts : List (Int × Int)) (h : ts.length * 2 ≤ cur.size) : (putCells id 0 (flatK e2 2 ts.toArray) cur).toList.take (ts.length * 2) = f2 ts := by
  apply List.ext_getElem?
  intro j
  by_cases hj : j < ts.length * 2
  · rw [List.getElem?_take_of_lt hj, Array.getElem?_toList, f2_get hj, ← flat2_get hj]
    simp [putCells, hj, show j < cur.size by omega]
  · rw [List.getElem?_take_eq_none (by omega), List.getElem?_eq_none (by rw [f2_len]; omega)]
theorem ownsRow2 {w : World} {base g cap n : Nat} {e : TypeId} {os : Array Obj} {cur : Array Value} {ss ts : List (Int × Int)} (hl : ts.length = ss.length) (hbase : base ≤ g) (hb : w.heap[g]? = some (.cells cur e (0, 0)))
    (h1 : ss.length ≤ cap) (h2 : cap ≤ maxLen) (h3 : cur.size = cap * 2) :
    (sortWorldK e2 2 w g 0 n ts.toArray os).ownsRow base e 2 (.slice (some ⟨g, 0, none⟩) ss.length cap) ss.length (f2 ts) :=
  ⟨by rw [f2_len, hl], .inr ⟨g, cap, _, rfl, hbase, heap2 _ hb, h1, h2, by simp [putCells, h3], by rw [← hl]; exact take_putCells2 cur ts (by omega)⟩⟩

theorem prs_rel {s : Sg} : ∀ {zs : List (Int × Int)}, (∀ x ∈ zs, InR .i64 x.1 ∧ InR .i64 x.2) → VRels s (prs zs) (f2 zs) := by
  intro zs
  induction zs with
  | nil => intro _; exact .nil s
  | cons x l ih =>
    intro h
    obtain ⟨h1, h2⟩ := h x (by simp)
    rw [f2_cons]
    exact .cons (.int _ _ h1) (.cons (.int _ _ h2) (ih fun y hy => h y (by simp [hy])))
/-- A call with a new slice of triples as its answer, on abstract values. -/
theorem rcall_of_row2 {f : FuncId} {args : List AV} {t : TypeId} {zs : List (Int × Int)} (hok : callOK P f = true) (h : AH)
    (H : ∀ (s : Sg) (h' : AH) (vs : List Value) (w : World), AH.leB h h' → VRels s args vs → HSim s h' w (ownOf s h') w → (∀ x ∈ zs, InR .i64 x.1 ∧ InR .i64 x.2) ∧ Calls P f vs.toArray w fun e w' => ∃ v : Value, e = .returned v ∧
      w'.ownsRow w.heap.size t 2 v zs.length (f2 zs) ∧ (v = .slice none 0 0 ↔ zs = []) ∧ Below w.heap.size w w') :
    RCall P f args h (.sl (decide (zs = [])) zs.length (prs zs) .unk) := by
  intro h' hl
  refine ⟨hok, fun s vs w hv hs => ?_⟩
  obtain ⟨hz, hH⟩ := H s h' vs w hl hv hs
  refine hH.mono ?_
  rintro e w' ⟨v, rfl, hrow, hnil, hb⟩
  have hlat : Later w w' := ⟨hb.block, hb.size, hb.os, hb.tape, hb.output⟩
  rcases hrow.2 with ⟨rfl, hz0⟩ | ⟨gb, cap, cur, rfl, hbase, hgb, r1, r2, r3, r4⟩
  · have hss : zs = [] := List.eq_nil_of_length_eq_zero hz0
    subst hss
    exact ⟨s, _, _, h', Sg.le.refl s, hs.later hlat, rfl, .sl true 0 [] .unk none 0 [] rfl (by simp) (by simp) rfl (fun _ => ⟨rfl, rfl⟩) (by simp) (Nat.le_refl _) (by omega) trivial, by simp [prs], rfl⟩
  · have hne : zs ≠ [] := fun hh => by have := hnil.2 hh; cases this
    obtain ⟨n1, n2, n3⟩ := hs.new_free hbase
    have hcur : ∀ j v, (f2 zs)[j]? = some v → cur[j]? = some v := fun j v hj => by
      have hjl : j < zs.length * 2 := by
        have := (List.getElem?_eq_some_iff.1 hj).1
        rwa [f2_len] at this
      have e1 : (cur.toList.take (zs.length * 2))[j]? = (f2 zs)[j]? := by rw [r4]
      rw [List.getElem?_take, if_pos hjl] at e1
      simp only [Array.getElem?_toList] at e1
      rw [e1, hj]
    have hone : ∀ v ∈ f2 zs, v.oneCell' = true := fun v hv => by
      obtain ⟨x, _, hx⟩ := List.mem_flatMap.1 hv
      exact e2_one x v hx
    obtain ⟨a1, a2⟩ := (hs.later hlat).addFx hgb (f2 zs) hcur hone n1 n2 n3
    have hrel := prs_rel (s := s) hz
    refine ⟨_, _, _, h', a1, a2, rfl, ?_, rfl, rfl⟩
    have hd : decide (zs = []) = false := decide_eq_false hne
    rw [hd]
    refine .sl false zs.length (prs zs) .unk (some ⟨gb, 0, none⟩) cap (f2 zs) (by rw [f2_len, prs_len]) (fun j x u hx hu => ((prs_rel (s := _) hz).2 j x u hx hu)) (fun j u hu => ⟨_, rfl, rfl, ?_⟩) rfl (by simp) (fun ad h _ => by cases h; rfl) r1 (by have := r2; simp only [maxLen] at this; omega) trivial
    simp only [Sg.fxNew, if_pos rfl, Nat.zero_add]
    exact hu

/-- The iterator over a map: it gives each mark once, in some order. -/
theorem iter2 (F : Fence) (n : Nat) (hf : F.fn 68) (hro : F.round = none) (hn : 1 ≤ n) (Bm o c : Nat) (mes : Array MapEntry) (ck : Nat) (D : List (Int × Int)) (w : World)
    (hBm : w.cell? ⟨Bm, o, none⟩ = some (.map (some c))) (hc : w.heap[c]? = some (.map mes ck)) (hold : ∀ x ∈ mes.toList, x.born < ck) (hnd : (mes.toList.map (·.born)).Nodup) (hv : mes.toList.map (·.key) = D.map g2) :
    SeqGives F n Try.prog 68 #[.pointer (some ⟨Bm, o, none⟩)] g2 (·.Perm D) D.length w := by
  intro l J W hW hJ hY h0
  have hcl : c < w.heap.size := (Array.getElem?_eq_some_iff.1 hc).1
  have hBl : Bm < w.heap.size := by
    obtain ⟨ob, hob, _⟩ := not_walk_of_cell hBm
    exact (Array.getElem?_eq_some_iff.1 hob).1
  have hBm1 := (hW.cell (p := ⟨Bm, o, none⟩) hBl).trans hBm
  have hc1 : W.heap[c]? = some (.map mes ck) := (hW.block c hcl).trans hc
  have hcW : c < W.heap.size := (Array.getElem?_eq_some_iff.1 hc1).1
  have hlen : mes.toList.length = D.length := by have := congrArg List.length hv; simpa using this
  obtain ⟨T, hTd⟩ : ∃ T, T = mes.toList.zip D := ⟨_, rfl⟩
  have hT : T.map (·.1) = mes.toList := by rw [hTd, List.map_fst_zip (by omega)]
  have hT2 : T.map (·.2) = D := by rw [hTd, List.map_snd_zip (by omega)]
  have hTl : T.length = D.length := by rw [← hT2, List.length_map]
  have hTv : ∀ x ∈ T, x.1.key = g2 x.2 := fun x hx => by
    obtain ⟨i, hi, rfl⟩ := List.getElem_of_mem hx
    have h1 : (mes.toList.map (·.key))[i]? = (D.map g2)[i]? := by rw [hv]
    have hi1 : i < mes.toList.length := by omega
    have hi2 : i < D.length := by omega
    rw [List.getElem?_map, List.getElem?_map, List.getElem?_eq_getElem hi1, List.getElem?_eq_getElem hi2] at h1
    subst hTd
    simpa using h1
  refine callsIn_of_wp Try.func68 rfl hf ?_ hro
  simp only [Try.ntmps68, List.size_toArray, List.length_cons, List.length_nil, Nat.reduceAdd, Nat.reduceSub, Array.replicate_succ, Array.replicate_zero, List.push_toArray, List.append_toArray, List.nil_append, List.cons_append]
  gi_wp2_with (first
    | (gi_at_range; refine wpListIn_range_raw _ rfl _ 59 rfl 33 4 Try.underlying59 c mes ck rfl hc1 ?_)
    | gi_in)
  go_frame
  have hg0 : W.grownBy (W.alloc (.mapIter (some c) ck #[] ck)) none := World.grownBy_alloc W _ _
  have hi0 : (W.alloc (.mapIter (some c) ck #[] ck)).heap[W.heap.size]? = some (.mapIter (some c) ck #[] ck) := by exact World.alloc_heap_new W _
  have hc0 : (W.alloc (.mapIter (some c) ck #[] ck)).heap[c]? = some (.map mes ck) := (Below.heap_alloc _ _ c hcW).trans hc1
  have hJ0 := hJ [] W _ none h0 hg0 (fun r e => by cases e)
  gi_loopw [3] (fun _ wr => ∃ (got : List (MapEntry × (Int × Int))) (seen : Array Nat) (c0 : Nat), MIt T got seen ∧ wr.heap[W.heap.size]? = some (.mapIter (some c) ck seen c0) ∧ ck ≤ c0 ∧ wr.heap[c]? = some (.map mes ck) ∧ J (got.map (·.2)) wr)
    (fun _ wr => mes.size - iterSeen wr W.heap.size)
  case atStart => exact ⟨[], #[], ck, MIt.start T, hi0, Nat.le_refl _, hc0, hJ0⟩
  case round =>
    obtain ⟨got, seen, c0, hM, hir, hck, hcr, hJs⟩ := hrel
    gi_wp2_with (first
      | (gi_at_next; refine wpListIn_next_raw _ rfl _ rfl W.heap.size c ck c0 seen mes ck rfl hir hcr hold hck ?_ ?_)
      | gi_in)
    · -- nothing is left
      intro hz
      gi_wp2
      go_end0
      exact ⟨⟨_, rfl⟩, got.map (·.2), by rw [← hT2]; exact (hM.done hT hnd hz).map _, hJs⟩
    · -- an entry has come
      intro x W2 hN
      obtain ⟨y, hy1, hM2, hlt⟩ := hM.step hT hN.mem
      have hxv := hTv _ hy1
      simp only at hxv
      have hg2 := hN.grown
      have hir2 := hN.same
      have hcr2 : W2.heap[c]? = some (.map mes ck) := (hg2.block c (Array.getElem?_eq_some_iff.1 hcr).1 (fun e => by have := Option.some.inj e; omega)).trans hcr
      have hJ2 : J (got.map (·.2)) W2 := hJ _ wr W2 (some W.heap.size) hJs hg2 (fun r' e => by cases e; exact ⟨Nat.le_refl _, _, hir, rfl⟩)
      have hxm : x ∈ mes.toList := (mem_leftOf.1 hN.mem).1
      have hen := run_entry_at (P := Try.prog) W2 W.heap.size c ck seen mes ck x hir2 hcr2 hxm hnd
      rw [hxv] at hen ⊢
      have hJ3 := hJ _ W2 (W2.alloc (.cells #[.int .i64 y.1, .int .i64 y.2] 33)) none hJ2 (World.grownBy_alloc W2 _ _) (fun r e => by cases e)
      obtain ⟨fn, tmps, assign, body, hyl, hR⟩ := hY (got.map (·.2)) y _ hJ3 (by rw [List.length_map]; omega)
      unfold g2 at hyl hen ⊢
      gi_wp2
      refine hR.mono ?_
      rintro e W3 ⟨rfl, hJ4, hk3⟩
      have hkw := (KeepsWalks.alloc W2 (.cells #[.int .i64 y.1, .int .i64 y.2] 33)).trans hk3
      gi_wp2
      go_roundw
      case rel => exact ⟨got ++ [(x, y)], _, ck, hM2, hkw.same W.heap.size _ hir2 rfl, Nat.le_refl _, hkw.same c _ hcr2 rfl, by rw [List.map_append]; exact hJ4⟩
      case measure =>
        rw [iterSeen_eq (hkw.same W.heap.size _ hir2 rfl), iterSeen_eq hir, Array.size_push]
        have h1 : seen.size = got.length := by rw [← Array.length_toList, hM.seen, List.length_map]
        have h2 : mes.size = T.length := by rw [hTl, ← hlen, Array.length_toList]
        omega
end Go.Proofs.Ytcnmodnafnadlaa
