/- Decisions that come by way of an iterator: gathered in a new slice. No condition but that the program has these functions of Go's library. -/
import Derived.Test.YtcnmodnafnadlaaM1
import Derived.Test.YtcnmodnafnadlaaA23
import Derived.Shelf.SlIterI.Collect
import Derived.Test.YtcnmodnafnadlaaProg
namespace Go.Proofs.Ytcnmodnafnadlaa
set_option maxRecDepth 100000
open Go Go.Abs Go.Shelf Go.Proofs Go.RowKit Go.Maps Go.Sort
set_option linter.unusedSimpArgs false
set_option linter.unusedVariables false

/-- A decision. -/
structure Dec where
  au : Int
  nu : Int
  ki : Int
  a : Int
  b : Int
def dD : Dec := ⟨0, 0, 0, 0, 0⟩
/-- The cells of a decision, and its value. -/
def e5 (p : Dec) : List Value := [.int .i64 p.au, .int .i64 p.nu, .int .i64 p.ki, .int .i64 p.a, .int .i64 p.b]
def g5 (p : Dec) : Value := .agg #[.int .i64 p.au, .int .i64 p.nu, .int .i64 p.ki, .int .i64 p.a, .int .i64 p.b]
def f5 (ss : List Dec) : List Value := ss.flatMap e5
theorem f5_snoc (ss : List Dec) (x : Dec) : f5 (ss ++ [x]) = f5 ss ++ e5 x := by simp [f5]
/-- The two codes of the first loop over a function. -/
def rfParts : Code → Option (Code × Code)
  | .seq a b => (rfParts a).or (rfParts b)
  | .block _ c => rfParts c
  | .rangeFunc _ _ a b => some (a, b)
  | _ => none
noncomputable def ap5A : Code := ((Try.f73.body.bind rfParts).getD (.skip, .skip)).1
noncomputable def ap5B : Code := ((Try.f73.body.bind rfParts).getD (.skip, .skip)).2
/-- The loop's record: AppendSeq's slots as they stood at the entering. -/
noncomputable def ap5Rec (fn : FuncId) (sv : Value) (Bs D : Nat) (st : LoopState) (pend : Option Code) : Loop :=
  { state := st, pending := pend, fn, tmps := #[.slice none 0 0, sv, .pointer (some ⟨Bs, 0, none⟩), undef, .slice none 0 0, undef, sv, undef, undef, undef, undef, undef, undef], params := #[7], assign := ap5A, body := ap5B, defers := D }

/-- Between two rounds: what has come so far lies in a block of the call's own. -/
structure Ap5 (w0 : World) (fn : FuncId) (sv : Value) (Bs l D : Nat) (ss : List Dec) (W : World) : Prop where
  box : ∃ v, W.heap[Bs]? = some (.cells #[v] 42 (0, 0)) ∧ W.ownsRow w0.heap.size 31 5 v ss.length (f5 ss) ∧ (v = .slice none 0 0 ↔ ss = [])
  L : W.heap[l]? = some (.loop (ap5Rec fn sv Bs D .ready none))
  K : W.heap[D]? = some (.deferred (some []))
  below : Below w0.heap.size w0 W

theorem Ap5.later {w0 : World} {fn : FuncId} {sv : Value} {Bs l D : Nat} {ss : List Dec} {X X' : World} (h : Ap5 w0 fn sv Bs l D ss X) (k : Below X.heap.size X X') : Ap5 w0 fn sv Bs l D ss X' := by
  have keep : ∀ {j : Nat} {o : Obj}, X.heap[j]? = some o → X'.heap[j]? = some o := fun {j o} hj => (k.block j (Array.getElem?_eq_some_iff.1 hj).1).trans hj
  obtain ⟨v, hv, ⟨r1, r2⟩, hn⟩ := h.box
  refine ⟨⟨v, keep hv, ⟨r1, ?_⟩, hn⟩, keep h.L, keep h.K, ?_⟩
  · rcases r2 with r2 | ⟨g, cap, cur, a1, a2, a3, a4⟩
    · exact .inl r2
    · exact .inr ⟨g, cap, cur, a1, a2, keep a3, a4⟩
  · exact h.below.trans (k.mono h.below.size)
theorem cells5_new (w : World) (x : Dec) (t : TypeId) : ∀ j u, (e5 x)[j]? = some u → (w.alloc (.cells #[.int .i64 x.au, .int .i64 x.nu, .int .i64 x.ki, .int .i64 x.a, .int .i64 x.b] t)).cell? ((⟨w.heap.size, 0, none⟩ : Addr).add j) = some u := by
  intro j u hj
  have hn : (w.alloc (.cells #[.int .i64 x.au, .int .i64 x.nu, .int .i64 x.ki, .int .i64 x.a, .int .i64 x.b] t)).heap[w.heap.size]? = some (.cells #[.int .i64 x.au, .int .i64 x.nu, .int .i64 x.ki, .int .i64 x.a, .int .i64 x.b] t (0, 0)) := World.alloc_heap_new w _
  match j, hj with
  | 0, hj =>
    show (match (w.alloc (.cells #[.int .i64 x.au, .int .i64 x.nu, .int .i64 x.ki, .int .i64 x.a, .int .i64 x.b] t)).heap[w.heap.size]? with | some (.cells c _ _) => if false then none else c[0]? | _ => none) = some u
    rw [hn]; exact hj
  | 1, hj =>
    show (match (w.alloc (.cells #[.int .i64 x.au, .int .i64 x.nu, .int .i64 x.ki, .int .i64 x.a, .int .i64 x.b] t)).heap[w.heap.size]? with | some (.cells c _ _) => if false then none else c[0 + 1]? | _ => none) = some u
    rw [hn]; exact hj
  | 2, hj =>
    show (match (w.alloc (.cells #[.int .i64 x.au, .int .i64 x.nu, .int .i64 x.ki, .int .i64 x.a, .int .i64 x.b] t)).heap[w.heap.size]? with | some (.cells c _ _) => if false then none else c[0 + 2]? | _ => none) = some u
    rw [hn]; exact hj
  | 3, hj =>
    show (match (w.alloc (.cells #[.int .i64 x.au, .int .i64 x.nu, .int .i64 x.ki, .int .i64 x.a, .int .i64 x.b] t)).heap[w.heap.size]? with | some (.cells c _ _) => if false then none else c[0 + 3]? | _ => none) = some u
    rw [hn]; exact hj
  | 4, hj =>
    show (match (w.alloc (.cells #[.int .i64 x.au, .int .i64 x.nu, .int .i64 x.ki, .int .i64 x.a, .int .i64 x.b] t)).heap[w.heap.size]? with | some (.cells c _ _) => if false then none else c[0 + 4]? | _ => none) = some u
    rw [hn]; exact hj

set_option maxRecDepth 100000 in
set_option maxHeartbeats 2000000 in
theorem apYield5 (F : Fence) (m : Nat) (w0 : World) (fn : FuncId) (hfn : F.fn fn) (sv : Value) (Bs l D : Nat) (hBl : Bs ≠ l) (hDl : D ≠ l) (hDB : D ≠ Bs) (h0B : w0.heap.size ≤ Bs) (h0l : w0.heap.size ≤ l)
    (N : Nat) (hN : N ≤ maxLen) (hNb : N * 40 ≤ 140737488355328) (ss : List Dec) (x : Dec) (W : World) (h : Ap5 w0 fn sv Bs l D ss W) (hlen : ss.length < N) :
    YieldAt F m Try.prog l #[g5 x] W fun e W' => e = .returned (.bool true) ∧ Ap5 w0 fn sv Bs l D (ss ++ [x]) W' ∧ KeepsWalks W W' := by
  have hne : (42 : Nat) ≠ 31 := by decide
  obtain ⟨i0, hi, hz0, hz1, hz2⟩ := info_parts (P := Try.prog) (e := 31) (z := g5 dD) (size := 5) (bytes := 40) (by kernel_rfl)
  obtain ⟨v, hv, hrow, _⟩ := h.box
  refine ⟨fn, #[.slice none 0 0, sv, .pointer (some ⟨Bs, 0, none⟩), undef, .slice none 0 0, undef, sv, g5 x, undef, undef, undef, undef, undef], ap5A, ap5B, by simpa [ap5Rec] using run_yield (P := Try.prog) (args := #[g5 x]) h.L rfl, roundIn_of_wpIn hfn ?_⟩
  have hlW : l < W.heap.size := (Array.getElem?_eq_some_iff.1 h.L).1
  have hBW : Bs < W.heap.size := (Array.getElem?_eq_some_iff.1 hv).1
  have hDW : D < W.heap.size := (Array.getElem?_eq_some_iff.1 h.K).1
  obtain ⟨Wa, hWa⟩ : ∃ Wa, W.alloc (.cells #[.int .i64 x.au, .int .i64 x.nu, .int .i64 x.ki, .int .i64 x.a, .int .i64 x.b] 31) = Wa := ⟨_, rfl⟩
  have hsa : Wa.heap.size = W.heap.size + 1 := by rw [← hWa]; simp
  have hold : ∀ k, k < W.heap.size → Wa.heap[k]? = W.heap[k]? := fun k hk => by rw [← hWa]; exact Below.heap_alloc _ _ k hk
  have hnew : Wa.heap[W.heap.size]? = some (.cells #[.int .i64 x.au, .int .i64 x.nu, .int .i64 x.ki, .int .i64 x.a, .int .i64 x.b] 31 (0, 0)) := by rw [← hWa]; exact World.alloc_heap_new W _
  have hva : Wa.heap[Bs]? = some (.cells #[v] 42 (0, 0)) := (hold Bs hBW).trans hv
  have hLa : Wa.heap[l]? = some (.loop (ap5Rec fn sv Bs D .ready none)) := (hold l hlW).trans h.L
  have hKa : Wa.heap[D]? = some (.deferred (some [])) := (hold D hDW).trans h.K
  have hrowa : Wa.ownsRow w0.heap.size 31 5 v ss.length (f5 ss) := by rw [← hWa]; exact hrow.alloc _
  have hba : Below w0.heap.size w0 Wa := by rw [← hWa]; exact h.below.alloc h.below.size _
  have hl : l < Wa.heap.size := by omega
  have hbr := run_beginRound (P := Try.prog) hLa rfl
  obtain ⟨W2, hW2⟩ : ∃ W2, Wa.putObj l (.loop { ap5Rec fn sv Bs D .ready none with state := .busy }) = W2 := ⟨_, rfl⟩
  rw [hW2] at hbr
  have hg2 : Wa.grownBy W2 (some l) := by rw [← hW2]; exact grownBy_putObj_a _ _ _
  have hkw2 : KeepsWalks W W2 := by
    refine KeepsWalks.trans (B := Wa) (by rw [← hWa]; exact KeepsWalks.alloc _ _) ?_
    rw [← hW2]
    exact KeepsWalks.putObj _ hLa rfl
  have hv2 : W2.heap[Bs]? = some (.cells #[v] 42 (0, 0)) := by rw [← hW2]; exact (World.putObj_heap_other hBl).trans hva
  have hK2 : W2.heap[D]? = some (.deferred (some [])) := by rw [← hW2]; exact (World.putObj_heap_other hDl).trans hKa
  have hL2 : W2.heap[l]? = some (.loop { ap5Rec fn sv Bs D .ready none with state := .busy }) := by rw [← hW2]; exact World.putObj_heap_same hl
  have hx2 : W2.heap[W.heap.size]? = some (.cells #[.int .i64 x.au, .int .i64 x.nu, .int .i64 x.ki, .int .i64 x.a, .int .i64 x.b] 31 (0, 0)) := by rw [← hW2]; exact (World.putObj_heap_other (by omega)).trans hnew
  have hxc : ∀ o, W2.cell? ⟨W.heap.size, o, none⟩ = #[Value.int .i64 x.au, .int .i64 x.nu, .int .i64 x.ki, .int .i64 x.a, .int .i64 x.b][o]? := fun o => by
    show (match W2.heap[W.heap.size]? with | some (.cells c _ _) => if false then none else c[o]? | _ => none) = _
    rw [hx2]; rfl
  have hx0 : W2.cell? ⟨W.heap.size, 0, none⟩ = some (.int .i64 x.au) := hxc 0
  have hx1 : W2.cell? ⟨W.heap.size, 1, none⟩ = some (.int .i64 x.nu) := hxc 1
  have hx2 : W2.cell? ⟨W.heap.size, 2, none⟩ = some (.int .i64 x.ki) := hxc 2
  have hx3 : W2.cell? ⟨W.heap.size, 3, none⟩ = some (.int .i64 x.a) := hxc 3
  have hx4 : W2.cell? ⟨W.heap.size, 4, none⟩ = some (.int .i64 x.b) := hxc 4
  have hrow2 : W2.ownsRow w0.heap.size 31 5 v ss.length (f5 ss) := hrowa.kept hg2 (ownsRow_ne_a hrowa hLa (fun cur e => by first | cases e | exact hne (Obj.cells.inj e).2.1))
  have hb2 : Below w0.heap.size w0 W2 := hba.grown hg2 hba.size (fun k e => by cases e; exact h0l)
  obtain ⟨hc2, hf2⟩ := cell_of_box_a hv2
  have hBlt : Bs < W2.heap.size := (Array.getElem?_eq_some_iff.1 hv2).1
  have hl2 : l < W2.heap.size := (Array.getElem?_eq_some_iff.1 hL2).1
  have hDlt : D < W2.heap.size := (Array.getElem?_eq_some_iff.1 hK2).1
  have ne_of : ∀ {j : Nat} {o : Obj}, W2.heap[j]? = some o → (∀ cur, o ≠ .cells cur 31 (0, 0)) → some j ≠ v.ownBlock := fun hj hno => by
    rcases ownsRow_ne_a hrow2 hj hno with e | e
    · rw [e]; simp
    · exact fun e' => e e'.symm
  clear hW2
  unfold g5
  simp only [ap5A, rfParts, Try.f73, Option.bind_some, Option.or_none, Option.none_or, Option.or_some, Option.some_or, Option.getD_some, Option.getD_none]
  gi_wp2_with gi_round_op_a
  simp only [ap5B, rfParts, Try.f73, Option.bind_some, Option.or_none, Option.none_or, Option.or_some, Option.some_or, Option.getD_some, Option.getD_none]
  gi_wp2_with (first
    | (gi_at_builtin; refine wpListIn_append_own _ rfl _ _ 42 rfl w0.heap.size 31 i0 (g5 dD) 5 40 Try.underlying42 hi hz0 hz1 hz2 rfl (by decide) _ _ _ rfl (hrow2.alloc _) ⟨W2.heap.size, 0, none⟩ 1 1 (e5 x) rfl rfl (cells5_new _ x _) (by simp [Value.oneCell', e5]) (by omega) (by omega) (by have := hb2.size; simp; omega) ?_; intro v' w3 hown' hg3 hnil3
       have hv3 : w3.heap[Bs]? = some (.cells #[v] 42 (0, 0)) := (hg3.block Bs (by simp; omega) (ne_of hv2 (fun cur e => by first | cases e | exact hne (Obj.cells.inj e).2.1))).trans ((Below.heap_alloc _ _ Bs hBlt).trans hv2)
       obtain ⟨hc3, hf3⟩ := cell_of_box_a hv3
       obtain ⟨g', cap', cur', rfl, hbase', hgb', hr1, hr2, hr3, hr4⟩ : ∃ g' cap' cur', v' = .slice (some ⟨g', 0, none⟩) (ss.length + 1) cap' ∧ w0.heap.size ≤ g' ∧ w3.heap[g']? = some (.cells cur' 31 (0, 0)) ∧ ss.length + 1 ≤ cap' ∧ cap' ≤ maxLen ∧ cur'.size = cap' * 5 ∧ cur'.toList.take ((ss.length + 1) * 5) = f5 ss ++ e5 x := by
         rcases hown'.2 with ⟨_, h0⟩ | h'
         · exact absurd h0 (by omega)
         · exact h'
       go_frame)
    | gi_round_op_a)
  have hg3' : (W2.alloc (.cells #[.int .i64 x.au, .int .i64 x.nu, .int .i64 x.ki, .int .i64 x.a, .int .i64 x.b] 31)).grownBy w3 v.ownBlock := hg3
  have hL3 : w3.heap[l]? = some (.loop { ap5Rec fn sv Bs D .ready none with state := .busy }) := (hg3'.block l (by simp; omega) (ne_of hL2 (fun cur e => by first | cases e | exact hne (Obj.cells.inj e).2.1))).trans ((Below.heap_alloc _ _ l hl2).trans hL2)
  have hK3 : w3.heap[D]? = some (.deferred (some [])) := (hg3'.block D (by simp; omega) (ne_of hK2 (fun cur e => by first | cases e | exact hne (Obj.cells.inj e).2.1))).trans ((Below.heap_alloc _ _ D hDlt).trans hK2)
  obtain ⟨w4, hw4⟩ : ∃ w4, w3.setCell ⟨Bs, 0, none⟩ (.slice (some ⟨g', 0, none⟩) (ss.length + 1) cap') = w4 := ⟨_, rfl⟩
  rw [hw4]
  have hg4 : w3.grownBy w4 (some Bs) := by rw [← hw4]; exact grownBy_setCell0_a _ _ _
  have hv4 : w4.heap[Bs]? = some (.cells #[.slice (some ⟨g', 0, none⟩) (ss.length + 1) cap'] 42 (0, 0)) := by rw [← hw4]; exact heap_setCell_box_a _ hv3
  have hL4 : w4.heap[l]? = some (.loop { ap5Rec fn sv Bs D .ready none with state := .busy }) := (hg4.block l (Array.getElem?_eq_some_iff.1 hL3).1 (fun e => hBl (by cases e; rfl))).trans hL3
  have hK4 : w4.heap[D]? = some (.deferred (some [])) := (hg4.block D (Array.getElem?_eq_some_iff.1 hK3).1 (fun e => hDB (by cases e; rfl))).trans hK3
  have hrow4 := hown'.kept hg4 (ownsRow_ne_a hown' hv3 (fun cur e => by first | cases e | exact hne (Obj.cells.inj e).2.1))
  have hl4 : l < w4.heap.size := (Array.getElem?_eq_some_iff.1 hL4).1
  have hb3 : Below w0.heap.size w0 w3 := (hb2.alloc hb2.size _).grown hg3' (by have := hb2.size; simp; omega) (fun k e => (hrow2.lt k e).1)
  have hb4 : Below w0.heap.size w0 w4 := hb3.grown hg4 hb3.size (fun k e => by cases e; exact h0B)
  have hk4 : KeepsWalks W w4 := ((hkw2.trans (KeepsWalks.alloc _ _)).trans (KeepsWalks.of_grownBy hg3' (ownsRow_not_walk_a (hrow2.alloc _)))).trans (by rw [← hw4]; exact KeepsWalks.setCell _ _ _)
  clear hw4
  refine ⟨_, _, run_endRound none hL4, rfl, ⟨⟨_, (World.putObj_heap_other hBl).trans hv4, ?_, by simp⟩, World.putObj_heap_same hl4, (World.putObj_heap_other hDl).trans hK4, hb4.grown (grownBy_putObj_a _ _ _) hb4.size (fun k e => by cases e; exact h0l)⟩, hk4.trans (KeepsWalks.putObj _ hL4 rfl)⟩
  have := hrow4.kept (grownBy_putObj_a w4 l (.loop { { ap5Rec fn sv Bs D .ready none with state := .busy } with state := if (none : Option Code).isNone then .ready else .done, pending := none })) (ownsRow_ne_a hrow4 hL4 (fun cur e => by first | cases e | exact hne (Obj.cells.inj e).2.1))
  rw [f5_snoc]
  simpa using this

theorem ownsRow_abides5 {W W' : World} {row : Option Nat} {base : Nat} {e : TypeId} {size : Nat} {v : Value} {k : Nat} {xs : List Value} (h : W.ownsRow base e size v k xs) (hg : W.grownBy W' row) (hrow : ∀ r, row = some r → ∃ o : Obj, W.heap[r]? = some o ∧ o.isWalk = true) : W'.ownsRow base e size v k xs := by
  refine ⟨h.1, ?_⟩
  rcases h.2 with h2 | ⟨g, cap, cur, a1, a2, a3, a4⟩
  · exact .inl h2
  · exact .inr ⟨g, cap, cur, a1, a2, (grownBy_keeps hg hrow a3 rfl).trans a3, a4⟩
theorem Ap5.abides {w0 : World} {fn : FuncId} {sv : Value} {Bs l D B : Nat} (hB : w0.heap.size ≤ B) : AbidesFrom B (Ap5 w0 fn sv Bs l D) := by
  intro ss W W' row h hg hrow
  have hrow' : ∀ r, row = some r → ∃ o : Obj, W.heap[r]? = some o ∧ o.isWalk = true := fun r e => (hrow r e).2
  obtain ⟨v, hv, hr, hn⟩ := h.box
  exact ⟨⟨v, (grownBy_keeps hg hrow' hv rfl).trans hv, ownsRow_abides5 hr hg hrow', hn⟩, (grownBy_keeps hg hrow' h.L rfl).trans h.L, (grownBy_keeps hg hrow' h.K rfl).trans h.K,
    h.below.grown hg h.below.size (fun k e => Nat.le_trans hB (hrow k e).1)⟩

set_option maxRecDepth 100000 in
set_option maxHeartbeats 2000000 in
theorem appendSeqV5 (F : Fence) (n : Nat) (h11 : F.fn 73) (hro : F.round = none) (hn : 2 ≤ n) (g : Nat) (lb : Array Value) (hFg : F.fn g) (eg : ∀ args w, (callFunc g args).run Try.prog w = .ok (.enter g args) w)
    (S : List Dec → Prop) (N : Nat) (hN : N ≤ maxLen) (hNb : N * 40 ≤ 140737488355328) (w : World) (hseq : SeqGives F (n - 1) Try.prog g lb g5 S N w) :
    CallsIn F n Try.prog 73 #[.slice none 0 0, .func (.func g) #[] lb] w fun e w' => ∃ (v : Value) (xs : List Dec), e = .returned v ∧ S xs ∧ w'.ownsRow w.heap.size 31 5 v xs.length (f5 xs) ∧ (v = .slice none 0 0 ↔ xs = []) ∧ Below w.heap.size w w' := by
  have h1 : 1 ≤ n := by omega
  have hne : (42 : Nat) ≠ 31 := by decide
  refine callsIn_of_wp_marks Try.func73 rfl h11 ?_ hro
  simp only [Try.ntmps73, List.size_toArray, List.length_cons, List.length_nil, Nat.reduceAdd, Nat.reduceSub, Array.replicate_succ, Array.replicate_zero, List.push_toArray, List.append_toArray, List.nil_append, List.cons_append]
  gi_wp2
  refine wpIn_rangeFunc ?_
  intro fn hfn
  rw [hro]
  obtain ⟨W0, hW0⟩ : ∃ W0, w.alloc (.cells #[.slice none 0 0] 42) = W0 := ⟨_, rfl⟩
  have hs0 : W0.heap.size = w.heap.size + 1 := by rw [← hW0]; simp
  have hv0 : W0.heap[w.heap.size]? = some (.cells #[.slice none 0 0] 42 (0, 0)) := by rw [← hW0]; exact World.alloc_heap_new w _
  have hb0 : Below w.heap.size w W0 := by rw [← hW0]; exact (Below.refl _ w).alloc (Nat.le_refl _) _
  rw [hW0]
  obtain ⟨W1, hW1⟩ : ∃ W1, (W0.alloc (.deferred (some []))).alloc (.loop (ap5Rec fn (.func (.func g) #[] lb) w.heap.size W0.heap.size .ready none)) = W1 := ⟨_, rfl⟩
  have hold : ∀ k, k < W0.heap.size → W1.heap[k]? = W0.heap[k]? := fun k hk => by
    rw [← hW1]; exact (Below.heap_alloc _ _ k (by simp; omega)).trans (Below.heap_alloc _ _ k hk)
  have hb1 : Below w.heap.size w W1 := by rw [← hW1]; exact (hb0.alloc hb0.size _).alloc (by have := hb0.size; simp; omega) _
  have hM : Ap5 w fn (.func (.func g) #[] lb) w.heap.size (W0.heap.size + 1) W0.heap.size [] W1 :=
    ⟨⟨_, (hold w.heap.size (by omega)).trans hv0, ⟨rfl, .inl ⟨rfl, rfl⟩⟩, by simp⟩,
     by rw [← hW1]; have := World.alloc_heap_new (W0.alloc (.deferred (some []))) (.loop (ap5Rec fn (.func (.func g) #[] lb) w.heap.size W0.heap.size .ready none)); rwa [World.size_alloc] at this,
     by rw [← hW1]; exact (Below.heap_alloc _ _ _ (by simp)).trans (World.alloc_heap_new W0 _), hb1⟩
  refine ⟨W0.heap.size + 1, [{ target := .collected W0.heap.size, args := #[] }], W1, { target := .fn (.func g) lb, args := #[.func (.yield (W0.heap.size + 1)) #[] #[]] }, W1, g,
    #[.func (.yield (W0.heap.size + 1)) #[] #[]] ++ lb, W1, ?_, ?_, ?_, ?_, fun _ => h1, ?_⟩
  · rw [← hW1]; exact run_enterLoop_outer _ _ _ _ _
  · simp [resolve, go_sem]
  · intro f' hf'; simp [Target.leads] at hf'; subst hf'; exact hFg
  · simp [invoke, go_sem, eg]
  · refine (hseq (W0.heap.size + 1) (Ap5 w fn (.func (.func g) #[] lb) w.heap.size (W0.heap.size + 1) W0.heap.size) W1 hb1 (Ap5.abides hb1.size)
      (fun pre x W hJ hl => apYield5 F (n - 1 - 1) w fn hfn _ w.heap.size (W0.heap.size + 1) W0.heap.size (by omega) (by omega) (by omega) (Nat.le_refl _) (by omega) N hN hNb pre x W hJ hl) hM).mono ?_
    rintro e W2 ⟨⟨v0, rfl⟩, xs, hS, h2⟩
    obtain ⟨v, hv, hrow, hnil⟩ := h2.box
    have hend := run_endLoop (P := Try.prog) h2.L (by simp [ap5Rec])
    obtain ⟨W3, hW3⟩ : ∃ W3, W2.putObj (W0.heap.size + 1) (.loop { ap5Rec fn (.func (.func g) #[] lb) w.heap.size W0.heap.size .ready none with state := .exhausted }) = W3 := ⟨_, rfl⟩
    rw [hW3] at hend
    have hg3 : W2.grownBy W3 (some (W0.heap.size + 1)) := by rw [← hW3]; exact grownBy_putObj_a _ _ _
    have hv3 : W3.heap[w.heap.size]? = some (.cells #[v] 42 (0, 0)) := by rw [← hW3]; exact (World.putObj_heap_other (by omega)).trans hv
    have hK3 : W3.heap[W0.heap.size]? = some (.deferred (some [])) := by rw [← hW3]; exact (World.putObj_heap_other (by omega)).trans h2.K
    have hrow3 := hrow.kept hg3 (ownsRow_ne_a hrow h2.L (fun cur e => by first | cases e | exact hne (Obj.cells.inj e).2.1))
    have hb3 : Below w.heap.size w W3 := h2.below.grown hg3 h2.below.size (fun k e => by cases e; omega)
    obtain ⟨hc3, hf3⟩ := cell_of_box_a hv3
    clear hW3
    refine ⟨none, W3, hend, ?_⟩
    gi_wp2
    rw [← hs0]
    refine ⟨by simp, .inl ⟨_, _, rfl, run_takeDeferred hK3, ?_⟩⟩
    exact ⟨_, results_tmp rfl _ _ _, v, xs, rfl, hS, hrow3.kept (grownBy_putObj_a _ _ _) (ownsRow_ne_a hrow3 hK3 (fun cur e => by first | cases e | exact hne (Obj.cells.inj e).2.1)), hnil, hb3.grown (grownBy_putObj_a _ _ _) hb3.size (fun k e => by cases e; omega)⟩

set_option maxHeartbeats 1000000 in
theorem collectV5 (F : Fence) (n : Nat) (h8 : F.fn 61) (h11 : F.fn 73) (hro : F.round = none) (hn : 3 ≤ n) (g : Nat) (lb : Array Value) (hFg : F.fn g) (eg : ∀ args w, (callFunc g args).run Try.prog w = .ok (.enter g args) w)
    (S : List Dec → Prop) (N : Nat) (hN : N ≤ maxLen) (hNb : N * 40 ≤ 140737488355328) (w : World) (hseq : SeqGives F (n - 1 - 1) Try.prog g lb g5 S N w) :
    CallsIn F n Try.prog 61 #[.func (.func g) #[] lb] w fun e w' => ∃ (v : Value) (xs : List Dec), e = .returned v ∧ S xs ∧ w'.ownsRow w.heap.size 31 5 v xs.length (f5 xs) ∧ (v = .slice none 0 0 ↔ xs = []) ∧ Below w.heap.size w w' := by
  have h1 : 1 ≤ n := by omega
  have e11 : ∀ args w, (callFunc 73 args).run Try.prog w = .ok (.enter 73 args) w := enters_of Try.func73 (by kernel_rfl) rfl
  refine callsIn_of_wp Try.func61 rfl h8 ?_ hro
  simp only [Try.ntmps61, List.size_toArray, List.length_cons, List.length_nil, Nat.reduceAdd, Nat.reduceSub, Array.replicate_succ, Array.replicate_zero, List.push_toArray, List.append_toArray, List.nil_append, List.cons_append]
  gi_wp2_with (gi_at_fn 73; refine (appendSeqV5 F (n - 1) h11 hro (by omega) g lb hFg eg S N hN hNb _ hseq).mono ?_; rintro e w' ⟨v, xs, rfl, hS, hrow, hnil, hb⟩)
  go_ret
  exact ⟨v, xs, rfl, hS, hrow, hnil, hb⟩
end Go.Proofs.Ytcnmodnafnadlaa
