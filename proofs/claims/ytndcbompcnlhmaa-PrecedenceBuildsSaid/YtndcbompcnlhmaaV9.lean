/- The library's SortFunc on a list of pairs of whole numbers in memory, as a call on abstract values. No condition but that the program has these functions of Go's library. -/
import Derived.Test.YtndcbompcnlhmaaA23
import Derived.Test.YtndcbompcnlhmaaD0
import Derived.Shelf.SlSortCmp.NoneTotal
import Derived.Test.YtndcbompcnlhmaaProg
import Derived.Shelf.SlSortCmp.QuietGrown
import Derived.Lib.Small
import Derived.Lib.Walk
import Derived.StillTailTactics
import Derived.LoopTactic
import Derived.LoopN
import Derived.Test.YtndcbompcnlhmaaA26
namespace Go.Abs
open Go Go.Shelf Go.Proofs Go.RowKit Go.Sort
set_option linter.unusedSimpArgs false
set_option linter.unusedVariables false

abbrev T2 := Int × Int
def e2 (p : T2) : List Value := [.int .i64 p.1, .int .i64 p.2]
def f2 (ss : List T2) : List Value := ss.flatMap e2
theorem e2_len (x : T2) : (e2 x).length = 2 := rfl
theorem e2_one (x : T2) : ∀ v ∈ e2 x, v.oneCell' = true := by simp [e2, Value.oneCell']
theorem f2_cons (x : T2) (l : List T2) : f2 (x :: l) = .int .i64 x.1 :: .int .i64 x.2 :: f2 l := rfl
theorem f2_len (l : List T2) : (f2 l).length = l.length * 2 := by
  induction l with
  | nil => rfl
  | cons x l ih => rw [f2_cons]; simp only [List.length_cons, ih]; omega
theorem f2_get {l : List T2} : ∀ {t : Nat}, t < l.length * 2 → (f2 l)[t]? = some ((e2 (l.getD (t / 2) (0, 0)))[t % 2]!) := by
  induction l with
  | nil => intro t h; simp at h
  | cons x l ih =>
    intro t h
    rw [f2_cons]
    match t, h with
    | 0, _ => rfl
    | 1, _ => rfl
    | t + 2, h =>
      simp only [List.getElem?_cons_succ]
      have ht : t < l.length * 2 := by simp only [List.length_cons] at h; omega
      rw [ih ht, show (t + 2) / 2 = t / 2 + 1 by omega, show (t + 2) % 2 = t % 2 by omega]
      simp
theorem flat2_get {l : List T2} {t : Nat} (h : t < l.length * 2) : (flatK e2 2 l.toArray)[t]! = (e2 (l.getD (t / 2) (0, 0)))[t % 2]! := by
  rw [get_flatK _ _ _ _ (by simpa using h)]
  congr 2
  have : t / 2 < l.length := by omega
  simp [List.getD, this]
theorem prs_get {l : List T2} : ∀ {t : Nat}, t < l.length * 2 → ∃ n : Int, (prs l)[t]? = some (.int .i64 n) ∧ (e2 (l.getD (t / 2) (0, 0)))[t % 2]! = .int .i64 n ∧ ∃ x ∈ l, n = x.1 ∨ n = x.2 := by
  induction l with
  | nil => intro t h; simp at h
  | cons x l ih =>
    intro t h
    match t, h with
    | 0, _ => exact ⟨x.1, rfl, rfl, x, by simp, .inl rfl⟩
    | 1, _ => exact ⟨x.2, rfl, rfl, x, by simp, .inr rfl⟩
    | t + 2, h =>
      obtain ⟨n, h1, h2, y, h3, h4⟩ := ih (t := t) (by simp only [List.length_cons] at h; omega)
      refine ⟨n, ?_, ?_, y, by simp [h3], h4⟩
      · have : prs (x :: l) = .int .i64 x.1 :: .int .i64 x.2 :: prs l := rfl
        rw [this]
        simpa using h1
      · rw [show (t + 2) / 2 = t / 2 + 1 by omega, show (t + 2) % 2 = t % 2 by omega]
        simpa using h2
theorem prs_mem {l : List T2} {x : T2} (h : x ∈ l) : ∃ j, j + 1 < l.length * 2 ∧ (prs l)[j]? = some (.int .i64 x.1) ∧ (prs l)[j + 1]? = some (.int .i64 x.2) := by
  induction l with
  | nil => cases h
  | cons y l ih =>
    have e : prs (y :: l) = .int .i64 y.1 :: .int .i64 y.2 :: prs l := rfl
    rw [e]
    rcases List.mem_cons.1 h with rfl | h
    · exact ⟨0, by simp only [List.length_cons]; omega, rfl, rfl⟩
    · obtain ⟨j, h1, h2, h3⟩ := ih h
      exact ⟨j + 2, by simp only [List.length_cons]; omega, by simpa using h2, by simpa using h3⟩
/-- Pairs in the order of a comparison. -/
def sP (cf : T2 → T2 → Int) (l : List T2) : List T2 := l.mergeSort fun x y => !(ltOf cf) y x
theorem sP_perm (cf : T2 → T2 → Int) (l : List T2) : (sP cf l).Perm l := List.mergeSort_perm _ _
theorem sP_len (cf : T2 → T2 → Int) (l : List T2) : (sP cf l).length = l.length := (sP_perm cf l).length_eq

theorem s_sortf2 {P : Program} {ρ : Ren} (Ly : SlLaysF0.n6 P ρ) (aE : ∀ w, (isAgg (ρ.t 24)).run P w = .ok true w) (zE : ∀ w, (Go.sizeOf (ρ.t 24)).run P w = .ok 2 w) (cf : T2 → T2 → Int) (hO : SWO (ltOf cf)) (hT : ∀ x y, (ltOf cf) x y = false → (ltOf cf) y x = false → x = y) (g : Nat)
    (eg : ∀ args w, (callFunc g args).run P w = .ok (.enter g args) w)
    (hcmp : ∀ (x y : T2) (W : World), Calls P g #[.agg (e2 x).toArray, .agg (e2 y).toArray] W fun e w' => e = .returned (.int .i64 (cf x y)) ∧ ∃ q os', w' = grow (W.drewN q) os')
    {h : AH} {b n : Nat} {cap : Option Nat} {zs : List T2} {rest : List AV} (hb : h.blk b = some (prs zs ++ rest)) (hn : n = zs.length) (hsz : zs.length < 4611686018427387904) (hok : callOK P (ρ.f 6) = true) :
    ACalls P (ρ.f 6) [.msl b 0 n cap, .fn g []] h fun r h' => r = .tup [] ∧ h' = h.put b (prs (sP cf zs) ++ rest) := by
  subst hn
  refine ⟨hok, fun s vs w hv hs => ?_⟩
  obtain ⟨v, hv0, hr⟩ := hv.at_ (j := 0) rfl
  obtain ⟨u, hu0, hru⟩ := hv.at_ (j := 1) rfl
  have hvs : vs = [v, u] := by
    match vs, hv.1, hv0, hu0 with
    | [a, b], _, h, k => simp at h k; rw [h, k]
  subst hvs
  obtain ⟨fs, rfl, hfs⟩ := hru.fn_inv
  have hfs0 : fs = [] := List.eq_nil_of_length_eq_zero (by simpa using hfs.1)
  subst hfs0
  obtain ⟨c, k, rfl, hc, hnk, hmax, hq⟩ := hr.msl_inv
  obtain ⟨c', ws, e, a1, a2, a3, a4, a5, a6⟩ := hs.blk b _ hb
  rw [hc] at a1; cases a1
  have hpl : (prs zs).length = zs.length * 2 := prs_len zs
  have hcell : ∀ j, j < zs.length * 2 → ws[j]? = some ((e2 (zs.getD (j / 2) (0, 0)))[j % 2]!) := by
    intro j hj
    obtain ⟨m, m1, m2, _⟩ := prs_get (l := zs) hj
    obtain ⟨u, u1, u2, u3⟩ := a4 j (.int .i64 m) (by rw [List.getElem?_append_left (by rw [hpl]; exact hj)]; exact m1)
    obtain ⟨rfl, _⟩ := u3.int_inv
    rw [u1, m2]
  have hH : HoldsK e2 2 w c 0 zs.toArray := by
    intro j hj
    have hj' : j < zs.length * 2 := by simpa using hj
    refine ⟨?_, ?_⟩
    · have : w.cell? ⟨c, 0 + j, none⟩ = ws[j]? := by
        rw [Nat.zero_add]
        simp [World.cell?, a2]
      rw [this, hcell j hj', flat2_get hj']
      rfl
    · simp [World.frozen?, a2]
  have hlt : c < w.heap.size := (Array.getElem?_eq_some_iff.1 a2).1
  have key := AnyQ.slices_SortFunc_total Ly 2 aE zE e2 e2_len e2_one cf hO g #[] c 0 k zs.toArray w eg (fun m os dk _ x y => hcmp x y _) hH hlt (by simpa using hsz) hT
  refine Calls.mono (by simpa using key) fun en w' hen => ?_
  obtain ⟨rfl, n, os, rfl⟩ := hen
  obtain ⟨us, hus⟩ : ∃ us, us = Sort.putCells id 0 (flatK e2 2 (sP cf zs).toArray) ws := ⟨_, rfl⟩
  have hsz2 : us.size = ws.size := by rw [hus]; simp [Sort.putCells]
  have hget : ∀ j, us[j]? = (ws[j]?).map fun x => if j < (sP cf zs).length * 2 then (e2 ((sP cf zs).getD (j / 2) (0, 0)))[j % 2]! else x := by
    intro j
    rw [hus]
    simp only [Sort.putCells, Array.getElem?_mapIdx, Nat.zero_le, true_and, Nat.zero_add, Nat.sub_zero, size_flatK, List.size_toArray]
    congr 1
    funext x
    split
    · rename_i hj; exact flat2_get hj
    · rfl
  have hinr : ∀ x ∈ zs, InR .i64 x.1 ∧ InR .i64 x.2 := by
    intro x hx
    obtain ⟨j, j1, j2, j3⟩ := prs_mem hx
    obtain ⟨u1, _, _, v1⟩ := a4 j _ (by rw [List.getElem?_append_left (by rw [hpl]; omega)]; exact j2)
    obtain ⟨u2, _, _, v2⟩ := a4 (j + 1) _ (by rw [List.getElem?_append_left (by rw [hpl]; omega)]; exact j3)
    exact ⟨v1.int_inv.2, v2.int_inv.2⟩
  have l1 := hs.setBlk (us := us) hb hc a2 (cells' := prs (sP cf zs) ++ rest)
    (by
      rw [hsz2]
      simp only [List.length_append, prs_len, sP_len] at a3 ⊢
      exact a3)
    (fun j x hx => by
      rw [hget]
      by_cases hj : j < (sP cf zs).length * 2
      · have hjz : j < zs.length * 2 := by rw [← sP_len cf zs]; exact hj
        rw [List.getElem?_append_left (by rw [prs_len]; exact hj)] at hx
        obtain ⟨m, m1, m2, y, m3, m4⟩ := prs_get (l := sP cf zs) hj
        rw [m1] at hx
        cases hx
        rw [hcell j hjz]
        refine ⟨_, rfl, ?_, ?_⟩
        · simp only [if_pos hj]; rw [m2]; rfl
        · simp only [if_pos hj]
          rw [m2]
          have := hinr y ((sP_perm cf zs).mem_iff.1 m3)
          refine .int .i64 _ ?_
          rcases m4 with rfl | rfl
          · exact this.1
          · exact this.2
      · have hx2 : (prs zs ++ rest)[j]? = some x := by
          have hjz : ¬ j < zs.length * 2 := by rw [← sP_len cf zs]; exact hj
          rw [List.getElem?_append_right (by rw [prs_len]; omega)] at hx
          rw [List.getElem?_append_right (by rw [prs_len]; omega)]
          rw [prs_len] at hx ⊢
          rw [sP_len] at hx
          exact hx
        obtain ⟨u, u1, u2, u3⟩ := a4 j x hx2
        rw [u1]
        refine ⟨u, ?_, u2, u3⟩
        simp only [Option.map_some]
        rw [if_neg hj])
  refine ⟨s, .tup [], _, _, Sg.le.refl s, (l1.draw (w.drawn + n)).later ?_, rfl, .tup [] [] rfl (by simp), rfl, rfl⟩
  have hset : (w.setRow c us).heap = w.heap.modify c (Sort.onCells (Sort.putCells id 0 (flatK e2 2 (sP cf zs).toArray))) := by
    unfold World.setRow
    apply Array.ext
    · simp
    · intro i h1 h2
      simp only [Array.getElem_modify]
      split
      · rename_i hci
        subst hci
        have : w.heap[c] = .cells ws e (0, 0) := by
          rw [Array.getElem?_eq_getElem hlt] at a2; exact Option.some.inj a2
        simp [this, Sort.onCells, hus]
      · rfl
  refine ⟨fun k hk => ?_, ?_, rfl, rfl, rfl⟩
  · have hk2 : k < (w.setRow c us).heap.size := hk
    show ((w.heap.modify c (Sort.onCells (Sort.putCells id 0 (flatK e2 2 (sP cf zs).toArray)))) ++ os)[k]? = _
    rw [hset] at hk2
    rw [Array.getElem?_append_left hk2]
    show _ = (w.setRow c us).heap[k]?
    rw [hset]
  · show (w.setRow c us).heap.size ≤ ((w.heap.modify c (Sort.onCells (Sort.putCells id 0 (flatK e2 2 (sP cf zs).toArray)))) ++ os).size
    rw [hset]
    simp
theorem s_sortf2_nil {P : Program} {ρ : Ren} (Ly : SlLaysF0.n6 P ρ) (g : Nat) (nl : Bool) (tl : Tail) (h : AH) (hok : callOK P (ρ.f 6) = true) :
    ACalls P (ρ.f 6) [.sl nl 0 [] tl, .fn g []] h fun r h' => r = .tup [] ∧ h' = h := by
  refine ⟨hok, fun s vs w hv hs => ?_⟩
  obtain ⟨v, hv0, hr⟩ := hv.at_ (j := 0) rfl
  obtain ⟨u, hu0, hru⟩ := hv.at_ (j := 1) rfl
  have hvs : vs = [v, u] := by
    match vs, hv.1, hv0, hu0 with
    | [a, b], _, h, k => simp at h k; rw [h, k]
  subst hvs
  obtain ⟨fs, rfl, hfs⟩ := hru.fn_inv
  obtain ⟨a, cap, ws, rfl, _⟩ := hr.sl_inv
  refine (AnyF.slices_SortFunc_none Ly a cap (.func (.func g) #[] fs.toArray) w).mono fun en w' hen => ?_
  obtain ⟨rfl, rfl⟩ := hen
  exact ⟨s, .tup [], _, h, Sg.le.refl s, hs, rfl, .tup [] [] rfl (by simp), rfl, rfl⟩
end Go.Abs
namespace Go.Proofs.Ytndcbompcnlhmaa
open Go Go.Proofs Go.Shelf Go.Lib Go.Sort Go.RowKit
set_option maxRecDepth 100000
set_option linter.unusedSimpArgs false

theorem c_isNaN (x : Int) (w : World) : Calls Try.prog 62 #[.int .i64 x] w fun e w' => e = .returned (.bool false) ∧ w' = w := by
  go_enter Try.func62, Try.ntmps62
  go_wp2
  go_ret
  exact ⟨by simp, rfl⟩
set_option maxHeartbeats 1000000 in
theorem c_Compare (x y : Int) (w : World) : Calls Try.prog 38 #[.int .i64 x, .int .i64 y] w fun e w' => e = .returned (.int .i64 (Lib.compareInt x y)) ∧ w' = w := by
  go_enter Try.func38, Try.ntmps38
  go_wp2_with (go_at_call 62; refine (c_isNaN _ _).mono ?_; rintro e w' ⟨rfl, hw⟩; rw [hw])
  all_goals (go_ret; refine ⟨?_, rfl⟩; unfold Lib.compareInt; (repeat' split) <;> first | rfl | (exfalso; omega))
/-- The first of two numbers that is not 0. -/
def or2 (a b : Int) : Int := if a ≠ 0 then a else b
set_option maxHeartbeats 2000000 in
theorem c_Or (a b : Int) (B k : Nat) (W : World) (ha : W.cell? ⟨B, 0, none⟩ = some (.int .i64 a)) (hb : W.cell? ⟨B, 1, none⟩ = some (.int .i64 b)) :
    Calls Try.prog 37 #[.slice (some ⟨B, 0, none⟩) 2 k] W fun e W' => e = .returned (.int .i64 (or2 a b)) ∧ W' = W := by
  go_enter Try.func37, Try.ntmps37
  go_wp2
  go_loop [8] (fun i => ∃ j : Nat, j ≤ 2 ∧ i = .int .i64 j ∧ (0 < j → a = 0) ∧ (1 < j → b = 0)) (fun i => 2 - (intOf i).toNat)
  case atStart => exact ⟨0, by omega, rfl, by omega, by omega⟩
  case round =>
    obtain ⟨j, hj, rfl, h1, h2⟩ := hrel
    have e3 : j = 0 ∨ j = 1 ∨ j = 2 := by omega
    rcases e3 with rfl | rfl | rfl
    · by_cases ha0 : a = 0
      · subst ha0
        go_wp2
        go_round
        case rel => exact ⟨1, by omega, rfl, fun _ => trivial, by omega⟩
        case measure => simp [intOf]
      · have hb1 : (a != 0) = true := by simp [ha0]
        go_wp2
        go_ret
        exact ⟨by simp [or2, ha0], rfl⟩
    · have ha0 := h1 (by omega)
      by_cases hb0 : b = 0
      · subst hb0
        go_wp2
        go_round
        case rel => exact ⟨2, by omega, rfl, fun _ => ha0, fun _ => trivial⟩
        case measure => simp [intOf]
      · have hb1 : (b != 0) = true := by simp [hb0]
        go_wp2
        go_ret
        exact ⟨by simp [or2, ha0, hb0], rfl⟩
    · have ha0 := h1 (by omega)
      have hb0 := h2 (by omega)
      go_wp2
      go_ret
      exact ⟨by simp [or2, ha0, hb0], rfl⟩
def Hid (p : Prop) : Prop := p
theorem al_new (w : World) (o : Obj) : (w.alloc o).heap[w.heap.size]? = some o := by show (w.heap.push o)[w.heap.size]? = _; simp
theorem al_old (w : World) (o : Obj) (k : Nat) (h : k < w.heap.size) : (w.alloc o).heap[k]? = w.heap[k]? := by show (w.heap.push o)[k]? = _; rw [Array.getElem?_push, if_neg (by omega)]
theorem al_size (w : World) (o : Obj) : (w.alloc o).heap.size = w.heap.size + 1 := by show (w.heap.push o).size = _; simp
theorem cell_at {w : World} {b : Nat} {c : Array Value} {t : TypeId} {f : Nat × Nat} (h : w.heap[b]? = some (.cells c t f)) (o : Nat) : w.cell? ⟨b, o, none⟩ = c[o]? := by
  show (match w.heap[b]? with | some (.cells c _ _) => if false then none else c[o]? | _ => none) = _
  rw [h]; rfl
set_option maxHeartbeats 1000000 in
theorem c_65 (x y : Int × Int) (W : World) : Calls Try.prog 65 #[.agg #[.int .i64 x.1, .int .i64 x.2], .agg #[.int .i64 y.1, .int .i64 y.2]] W fun e w' => e = .returned (.int .i64 (or2 (Lib.compareInt x.1 y.1) (Lib.compareInt x.2 y.2))) ∧ ∃ q os', w' = grow (W.drewN q) os' := by
  go_enter Try.func65, Try.ntmps65
  have hor := c_Or (Lib.compareInt x.1 y.1) (Lib.compareInt x.2 y.2)
  have hcmp := c_Compare
  go_wp2
  obtain ⟨W1, hW1⟩ : ∃ W1, (W.alloc (.cells #[.int .i64 x.1, .int .i64 x.2] 62)).alloc (.cells #[.int .i64 y.1, .int .i64 y.2] 62) = W1 := ⟨_, rfl⟩
  have hA : W1.heap[W.heap.size]? = some (.cells #[.int .i64 x.1, .int .i64 x.2] 62 (0, 0)) := by
    rw [← hW1]; exact (al_old _ _ _ (by rw [al_size]; omega)).trans (al_new W _)
  have hB : W1.heap[W.heap.size + 1]? = some (.cells #[.int .i64 y.1, .int .i64 y.2] 62 (0, 0)) := by
    rw [← hW1]; have := al_new (W.alloc (.cells #[.int .i64 x.1, .int .i64 x.2] 62)) (.cells #[.int .i64 y.1, .int .i64 y.2] 62); rwa [al_size] at this
  have hgrow : W1 = grow W #[.cells #[.int .i64 x.1, .int .i64 x.2] 62 (0, 0), .cells #[.int .i64 y.1, .int .i64 y.2] 62 (0, 0)] := by rw [← hW1, alloc_eq_grow, alloc_eq_grow, grow_grow]; rfl
  change Code.wp Try.prog _ _ _ ((W.alloc (.cells #[.int .i64 x.1, .int .i64 x.2] 62)).alloc (.cells #[.int .i64 y.1, .int .i64 y.2] 62))
  rw [hW1]
  refine wp_region_still_tail 10 (by kernel_rfl) (by kernel_rfl) ?_
  simp only [List.take_succ_cons, List.take_zero, List.drop_succ_cons, List.drop_zero]
  change wpStill _ _ W1.drew _ _ _
  obtain ⟨W2, hW2⟩ : ∃ W2, W1.drew = W2 := ⟨_, rfl⟩
  have hA2 : W2.heap[W.heap.size]? = some (.cells #[.int .i64 x.1, .int .i64 x.2] 62 (0, 0)) := by rw [← hW2]; exact hA
  have hB2 : W2.heap[W.heap.size + 1]? = some (.cells #[.int .i64 y.1, .int .i64 y.2] 62 (0, 0)) := by rw [← hW2]; exact hB
  have a0 := cell_at hA2 0
  have a1 := cell_at hA2 1
  have b0 := cell_at hB2 0
  have b1 := cell_at hB2 1
  simp at a0 a1 b0 b1
  rw [hW2]
  still_step
  still_step
  still_step
  still_step
  still_call (hcmp _ _ _)
  still_step
  still_step
  still_step
  still_step
  still_call (hcmp _ _ _)
  refine wpStill_nil ?_
  change wpList _ _ _ _ _ W1.drew
  rw [hW2]
  have hC := al_new W2 (.cells #[.int .i64 (Lib.compareInt x.1 y.1), .int .i64 (Lib.compareInt x.2 y.2)] 3)
  have hor' := fun k => hor W2.heap.size k (W2.alloc (.cells #[.int .i64 (Lib.compareInt x.1 y.1), .int .i64 (Lib.compareInt x.2 y.2)] 3)) (cell_at hC 0) (cell_at hC 1)
  have hfin : Hid (W2.alloc (.cells #[.int .i64 (Lib.compareInt x.1 y.1), .int .i64 (Lib.compareInt x.2 y.2)] 3) = grow (W.drewN 1) #[.cells #[.int .i64 x.1, .int .i64 x.2] 62 (0, 0), .cells #[.int .i64 y.1, .int .i64 y.2] 62 (0, 0), .cells #[.int .i64 (Lib.compareInt x.1 y.1), .int .i64 (Lib.compareInt x.2 y.2)] 3 (0, 0)]) := by
    unfold Hid
    rw [← hW2, hgrow, alloc_eq_grow]
    show grow (grow W.drew _) _ = _
    rw [grow_grow]
    rfl
  obtain ⟨r, hr⟩ : ∃ r, or2 (Lib.compareInt x.1 y.1) (Lib.compareInt x.2 y.2) = r := ⟨_, rfl⟩
  rw [hr] at hor'
  replace hr : Hid (or2 (Lib.compareInt x.1 y.1) (Lib.compareInt x.2 y.2) = r) := hr
  clear hor hcmp hA hB hA2 hB2 a0 a1 b0 b1 hC hgrow hW2 hW1 W1
  generalize Lib.compareInt x.1 y.1 = r1 at hor' hfin ⊢
  generalize Lib.compareInt x.2 y.2 = r2 at hor' hfin ⊢
  go_wp2_with (go_at_call 37; refine (hor' _).mono ?_; rintro e w' ⟨rfl, rfl⟩)
  go_ret
  refine ⟨?_, 1, _, hfin⟩
  simp
  exact Eq.symm hr
set_option maxHeartbeats 1000000 in
theorem c_52 (x y : Int × Int) (W : World) : Calls Try.prog 52 #[.agg #[.int .i64 x.1, .int .i64 x.2], .agg #[.int .i64 y.1, .int .i64 y.2]] W fun e w' => e = .returned (.int .i64 (or2 (Lib.compareInt x.1 y.1) (Lib.compareInt x.2 y.2))) ∧ ∃ q os', w' = grow (W.drewN q) os' := by
  go_enter Try.func52, Try.ntmps52
  have hor := c_Or (Lib.compareInt x.1 y.1) (Lib.compareInt x.2 y.2)
  have hcmp := c_Compare
  go_wp2
  obtain ⟨W1, hW1⟩ : ∃ W1, (W.alloc (.cells #[.int .i64 x.1, .int .i64 x.2] 46)).alloc (.cells #[.int .i64 y.1, .int .i64 y.2] 46) = W1 := ⟨_, rfl⟩
  have hA : W1.heap[W.heap.size]? = some (.cells #[.int .i64 x.1, .int .i64 x.2] 46 (0, 0)) := by
    rw [← hW1]; exact (al_old _ _ _ (by rw [al_size]; omega)).trans (al_new W _)
  have hB : W1.heap[W.heap.size + 1]? = some (.cells #[.int .i64 y.1, .int .i64 y.2] 46 (0, 0)) := by
    rw [← hW1]; have := al_new (W.alloc (.cells #[.int .i64 x.1, .int .i64 x.2] 46)) (.cells #[.int .i64 y.1, .int .i64 y.2] 46); rwa [al_size] at this
  have hgrow : W1 = grow W #[.cells #[.int .i64 x.1, .int .i64 x.2] 46 (0, 0), .cells #[.int .i64 y.1, .int .i64 y.2] 46 (0, 0)] := by rw [← hW1, alloc_eq_grow, alloc_eq_grow, grow_grow]; rfl
  change Code.wp Try.prog _ _ _ ((W.alloc (.cells #[.int .i64 x.1, .int .i64 x.2] 46)).alloc (.cells #[.int .i64 y.1, .int .i64 y.2] 46))
  rw [hW1]
  refine wp_region_still_tail 10 (by kernel_rfl) (by kernel_rfl) ?_
  simp only [List.take_succ_cons, List.take_zero, List.drop_succ_cons, List.drop_zero]
  change wpStill _ _ W1.drew _ _ _
  obtain ⟨W2, hW2⟩ : ∃ W2, W1.drew = W2 := ⟨_, rfl⟩
  have hA2 : W2.heap[W.heap.size]? = some (.cells #[.int .i64 x.1, .int .i64 x.2] 46 (0, 0)) := by rw [← hW2]; exact hA
  have hB2 : W2.heap[W.heap.size + 1]? = some (.cells #[.int .i64 y.1, .int .i64 y.2] 46 (0, 0)) := by rw [← hW2]; exact hB
  have a0 := cell_at hA2 0
  have a1 := cell_at hA2 1
  have b0 := cell_at hB2 0
  have b1 := cell_at hB2 1
  simp at a0 a1 b0 b1
  rw [hW2]
  still_step
  still_step
  still_step
  still_step
  still_call (hcmp _ _ _)
  still_step
  still_step
  still_step
  still_step
  still_call (hcmp _ _ _)
  refine wpStill_nil ?_
  change wpList _ _ _ _ _ W1.drew
  rw [hW2]
  have hC := al_new W2 (.cells #[.int .i64 (Lib.compareInt x.1 y.1), .int .i64 (Lib.compareInt x.2 y.2)] 3)
  have hor' := fun k => hor W2.heap.size k (W2.alloc (.cells #[.int .i64 (Lib.compareInt x.1 y.1), .int .i64 (Lib.compareInt x.2 y.2)] 3)) (cell_at hC 0) (cell_at hC 1)
  have hfin : Hid (W2.alloc (.cells #[.int .i64 (Lib.compareInt x.1 y.1), .int .i64 (Lib.compareInt x.2 y.2)] 3) = grow (W.drewN 1) #[.cells #[.int .i64 x.1, .int .i64 x.2] 46 (0, 0), .cells #[.int .i64 y.1, .int .i64 y.2] 46 (0, 0), .cells #[.int .i64 (Lib.compareInt x.1 y.1), .int .i64 (Lib.compareInt x.2 y.2)] 3 (0, 0)]) := by
    unfold Hid
    rw [← hW2, hgrow, alloc_eq_grow]
    show grow (grow W.drew _) _ = _
    rw [grow_grow]
    rfl
  obtain ⟨r, hr⟩ : ∃ r, or2 (Lib.compareInt x.1 y.1) (Lib.compareInt x.2 y.2) = r := ⟨_, rfl⟩
  rw [hr] at hor'
  replace hr : Hid (or2 (Lib.compareInt x.1 y.1) (Lib.compareInt x.2 y.2) = r) := hr
  clear hor hcmp hA hB hA2 hB2 a0 a1 b0 b1 hC hgrow hW2 hW1 W1
  generalize Lib.compareInt x.1 y.1 = r1 at hor' hfin ⊢
  generalize Lib.compareInt x.2 y.2 = r2 at hor' hfin ⊢
  go_wp2_with (go_at_call 37; refine (hor' _).mono ?_; rintro e w' ⟨rfl, rfl⟩)
  go_ret
  refine ⟨?_, 1, _, hfin⟩
  simp
  exact Eq.symm hr
end Go.Proofs.Ytndcbompcnlhmaa
namespace Go.Proofs.Ytndcbompcnlhmaa
open Go Go.Abs Go.Shelf Go.Proofs Go.Sort
set_option maxRecDepth 100000
def rsF : Nat → Nat
  | 6 => 64
  | 14 => 82
  | 15 => 74
  | 20 => 103
  | 21 => 104
  | 22 => 105
  | 23 => 106
  | 24 => 107
  | 25 => 108
  | 26 => 109
  | 27 => 110
  | 28 => 94
  | 29 => 95
  | 46 => 116
  | 47 => 112
  | 48 => 113
  | 49 => 117
  | 50 => 118
  | 57 => 120
  | _ => 0
def rsT : Nat → Nat
  | 0 => 0
  | 3 => 3
  | 4 => 4
  | 5 => 5
  | 9 => 9
  | 22 => 33
  | 24 => 62
  | 25 => 93
  | 39 => 104
  | 45 => 115
  | 46 => 116
  | 50 => 120
  | 53 => 112
  | 55 => 124
  | 66 => 134
  | 70 => 138
  | 76 => 142
  | 77 => 96
  | _ => 0
def rs : Ren := ⟨rsF, rsT, fun x => x⟩
theorem sfLays : SlLaysF0.n6 Try.prog rs where
  mixed := by kernel_rfl
  f6 := ⟨ "slices.SortFunc[[]coinage/api.Arc,coinage/api.Arc]", by decide, by kernel_rfl⟩
  f14 := ⟨ "slices.pdqsortCmpFunc[coinage/api.Arc]", by decide, by kernel_rfl⟩
  f15 := by kernel_rfl
  f20 := ⟨ "slices.insertionSortCmpFunc[coinage/api.Arc]", by decide, by kernel_rfl⟩
  f21 := ⟨ "slices.heapSortCmpFunc[coinage/api.Arc]", by decide, by kernel_rfl⟩
  f22 := ⟨ "slices.breakPatternsCmpFunc[coinage/api.Arc]", by decide, by kernel_rfl⟩
  f23 := ⟨ "slices.choosePivotCmpFunc[coinage/api.Arc]", by decide, by kernel_rfl⟩
  f24 := ⟨ "slices.reverseRangeCmpFunc[coinage/api.Arc]", by decide, by kernel_rfl⟩
  f25 := ⟨ "slices.partialInsertionSortCmpFunc[coinage/api.Arc]", by decide, by kernel_rfl⟩
  f26 := ⟨ "slices.partitionEqualCmpFunc[coinage/api.Arc]", by decide, by kernel_rfl⟩
  f27 := ⟨ "slices.partitionCmpFunc[coinage/api.Arc]", by decide, by kernel_rfl⟩
  f28 := by kernel_rfl
  f29 := by kernel_rfl
  f46 := ⟨ "slices.siftDownCmpFunc[coinage/api.Arc]", by decide, by kernel_rfl⟩
  f47 := by kernel_rfl
  f48 := by kernel_rfl
  f49 := ⟨ "slices.medianAdjacentCmpFunc[coinage/api.Arc]", by decide, by kernel_rfl⟩
  f50 := ⟨ "slices.medianCmpFunc[coinage/api.Arc]", by decide, by kernel_rfl⟩
  f57 := ⟨ "slices.order2CmpFunc[coinage/api.Arc]", by decide, by kernel_rfl⟩
  t0 := Try.underlying0
  a0 := Try.isAgg0
  z0 := Try.sizeOf0
  v0 := Try.zeroValue0
  t3 := Try.underlying3
  a3 := Try.isAgg3
  z3 := Try.sizeOf3
  v3 := Try.zeroValue3
  t4 := Try.underlying4
  a4 := Try.isAgg4
  z4 := Try.sizeOf4
  v4 := Try.zeroValue4
  t5 := Try.underlying5
  a5 := Try.isAgg5
  z5 := Try.sizeOf5
  v5 := Try.zeroValue5
  t9 := Try.underlying9
  a9 := Try.isAgg9
  z9 := Try.sizeOf9
  v9 := Try.zeroValue9
  t22 := Try.underlying33
  a22 := Try.isAgg33
  z22 := Try.sizeOf33
  v22 := Try.zeroValue33
  t25 := Try.underlying93
  a25 := Try.isAgg93
  z25 := Try.sizeOf93
  v25 := Try.zeroValue93
  t39 := Try.underlying104
  a39 := Try.isAgg104
  z39 := Try.sizeOf104
  v39 := Try.zeroValue104
  t45 := Try.underlying115
  a45 := Try.isAgg115
  z45 := Try.sizeOf115
  v45 := Try.zeroValue115
  t46 := Try.underlying116
  a46 := Try.isAgg116
  z46 := Try.sizeOf116
  v46 := Try.zeroValue116
  t50 := Try.underlying120
  a50 := Try.isAgg120
  z50 := Try.sizeOf120
  v50 := Try.zeroValue120
  t53 := Try.underlying112
  a53 := Try.isAgg112
  z53 := Try.sizeOf112
  v53 := Try.zeroValue112
  t55 := Try.underlying124
  a55 := Try.isAgg124
  z55 := Try.sizeOf124
  v55 := Try.zeroValue124
  t66 := Try.underlying134
  a66 := Try.isAgg134
  z66 := Try.sizeOf134
  v66 := Try.zeroValue134
  t70 := Try.underlying138
  a70 := Try.isAgg138
  z70 := Try.sizeOf138
  v70 := Try.zeroValue138
  t76 := Try.underlying142
  a76 := Try.isAgg142
  z76 := Try.sizeOf142
  v76 := Try.zeroValue142
  t77 := Try.underlying96
  a77 := Try.isAgg96
  z77 := Try.sizeOf96
  v77 := Try.zeroValue96
end Go.Proofs.Ytndcbompcnlhmaa
namespace Go.Proofs.Ytndcbompcnlhmaa
open Go Go.Abs Go.Shelf Go.Proofs Go.Sort
set_option maxRecDepth 100000
def rsFP : Nat → Nat
  | 6 => 51
  | 14 => 73
  | 15 => 74
  | 20 => 86
  | 21 => 87
  | 22 => 88
  | 23 => 89
  | 24 => 90
  | 25 => 91
  | 26 => 92
  | 27 => 93
  | 28 => 94
  | 29 => 95
  | 46 => 111
  | 47 => 112
  | 48 => 113
  | 49 => 114
  | 50 => 115
  | 57 => 119
  | _ => 0
def rsTP : Nat → Nat
  | 0 => 0
  | 3 => 3
  | 4 => 4
  | 5 => 5
  | 9 => 9
  | 22 => 23
  | 24 => 46
  | 25 => 85
  | 39 => 104
  | 45 => 115
  | 46 => 116
  | 50 => 120
  | 53 => 112
  | 55 => 124
  | 66 => 134
  | 70 => 138
  | 76 => 142
  | 77 => 96
  | _ => 0
def rsP : Ren := ⟨rsFP, rsTP, fun x => x⟩
theorem sfLaysP : SlLaysF0.n6 Try.prog rsP where
  mixed := by kernel_rfl
  f6 := ⟨ "slices.SortFunc[[]coinage/api.Pair,coinage/api.Pair]", by decide, by kernel_rfl⟩
  f14 := ⟨ "slices.pdqsortCmpFunc[coinage/api.Pair]", by decide, by kernel_rfl⟩
  f15 := by kernel_rfl
  f20 := ⟨ "slices.insertionSortCmpFunc[coinage/api.Pair]", by decide, by kernel_rfl⟩
  f21 := ⟨ "slices.heapSortCmpFunc[coinage/api.Pair]", by decide, by kernel_rfl⟩
  f22 := ⟨ "slices.breakPatternsCmpFunc[coinage/api.Pair]", by decide, by kernel_rfl⟩
  f23 := ⟨ "slices.choosePivotCmpFunc[coinage/api.Pair]", by decide, by kernel_rfl⟩
  f24 := ⟨ "slices.reverseRangeCmpFunc[coinage/api.Pair]", by decide, by kernel_rfl⟩
  f25 := ⟨ "slices.partialInsertionSortCmpFunc[coinage/api.Pair]", by decide, by kernel_rfl⟩
  f26 := ⟨ "slices.partitionEqualCmpFunc[coinage/api.Pair]", by decide, by kernel_rfl⟩
  f27 := ⟨ "slices.partitionCmpFunc[coinage/api.Pair]", by decide, by kernel_rfl⟩
  f28 := by kernel_rfl
  f29 := by kernel_rfl
  f46 := ⟨ "slices.siftDownCmpFunc[coinage/api.Pair]", by decide, by kernel_rfl⟩
  f47 := by kernel_rfl
  f48 := by kernel_rfl
  f49 := ⟨ "slices.medianAdjacentCmpFunc[coinage/api.Pair]", by decide, by kernel_rfl⟩
  f50 := ⟨ "slices.medianCmpFunc[coinage/api.Pair]", by decide, by kernel_rfl⟩
  f57 := ⟨ "slices.order2CmpFunc[coinage/api.Pair]", by decide, by kernel_rfl⟩
  t0 := Try.underlying0
  a0 := Try.isAgg0
  z0 := Try.sizeOf0
  v0 := Try.zeroValue0
  t3 := Try.underlying3
  a3 := Try.isAgg3
  z3 := Try.sizeOf3
  v3 := Try.zeroValue3
  t4 := Try.underlying4
  a4 := Try.isAgg4
  z4 := Try.sizeOf4
  v4 := Try.zeroValue4
  t5 := Try.underlying5
  a5 := Try.isAgg5
  z5 := Try.sizeOf5
  v5 := Try.zeroValue5
  t9 := Try.underlying9
  a9 := Try.isAgg9
  z9 := Try.sizeOf9
  v9 := Try.zeroValue9
  t22 := Try.underlying23
  a22 := Try.isAgg23
  z22 := Try.sizeOf23
  v22 := Try.zeroValue23
  t25 := Try.underlying85
  a25 := Try.isAgg85
  z25 := Try.sizeOf85
  v25 := Try.zeroValue85
  t39 := Try.underlying104
  a39 := Try.isAgg104
  z39 := Try.sizeOf104
  v39 := Try.zeroValue104
  t45 := Try.underlying115
  a45 := Try.isAgg115
  z45 := Try.sizeOf115
  v45 := Try.zeroValue115
  t46 := Try.underlying116
  a46 := Try.isAgg116
  z46 := Try.sizeOf116
  v46 := Try.zeroValue116
  t50 := Try.underlying120
  a50 := Try.isAgg120
  z50 := Try.sizeOf120
  v50 := Try.zeroValue120
  t53 := Try.underlying112
  a53 := Try.isAgg112
  z53 := Try.sizeOf112
  v53 := Try.zeroValue112
  t55 := Try.underlying124
  a55 := Try.isAgg124
  z55 := Try.sizeOf124
  v55 := Try.zeroValue124
  t66 := Try.underlying134
  a66 := Try.isAgg134
  z66 := Try.sizeOf134
  v66 := Try.zeroValue134
  t70 := Try.underlying138
  a70 := Try.isAgg138
  z70 := Try.sizeOf138
  v70 := Try.zeroValue138
  t76 := Try.underlying142
  a76 := Try.isAgg142
  z76 := Try.sizeOf142
  v76 := Try.zeroValue142
  t77 := Try.underlying96
  a77 := Try.isAgg96
  z77 := Try.sizeOf96
  v77 := Try.zeroValue96
end Go.Proofs.Ytndcbompcnlhmaa
namespace Go.Proofs.Ytndcbompcnlhmaa
open Go Go.Abs Go.Shelf Go.Proofs Go.Sort
set_option maxRecDepth 100000
set_option linter.unusedSimpArgs false
set_option linter.unusedVariables false

/-- The order of the closures. -/
def cf2 (a b : Int × Int) : Int := or2 (Lib.compareInt a.1 b.1) (Lib.compareInt a.2 b.2)
theorem cf2_lt (a b : Int × Int) : cf2 a b < 0 ↔ Lx a b := by
  unfold cf2 or2 Lib.compareInt Lx
  repeat' split
  all_goals omega
theorem lt2_iff (a b : Int × Int) : ltOf cf2 a b = true ↔ Lx a b := by
  unfold ltOf
  rw [decide_eq_true_eq, cf2_lt]
theorem lt2_swo : SWO (ltOf cf2) where
  irrefl x := by rw [Bool.eq_false_iff]; intro h; rw [lt2_iff] at h; exact Lx.irr h
  trans x y z h1 h2 := by rw [lt2_iff] at *; exact h1.trans h2
  ntrans x y z h1 h2 := by
    rw [Bool.eq_false_iff] at *
    intro h
    rw [ne_eq, lt2_iff] at h1 h2
    rw [lt2_iff] at h
    unfold Lx at *
    omega
theorem lt2_anti (x y : Int × Int) (h1 : ltOf cf2 x y = false) (h2 : ltOf cf2 y x = false) : x = y := by
  rw [Bool.eq_false_iff, ne_eq, lt2_iff] at h1 h2
  obtain ⟨a1, a2⟩ := x
  obtain ⟨b1, b2⟩ := y
  unfold Lx at h1 h2
  simp only at h1 h2
  simp only [Prod.mk.injEq]
  omega
theorem s_slices_SortFunc_Arc {h : AH} {b n : Nat} {cap : Option Nat} {zs : List (Int × Int)} {rest : List AV} (hb : h.blk b = some (prs zs ++ rest)) (hn : n = zs.length) (hsz : zs.length < 4611686018427387904) :
    ACalls Try.prog 64 [.msl b 0 n cap, .fn 65 []] h fun r h' => r = .tup [] ∧ h' = h.put b (prs (sP cf2 zs) ++ rest) :=
  s_sortf2 sfLays Try.isAgg62 Try.sizeOf62 cf2 lt2_swo lt2_anti 65 (enters_of Try.func65 (by kernel_rfl) rfl) (fun x y W => c_65 x y W) hb hn hsz (by kernel_rfl)
theorem s_slices_SortFunc_Pair {h : AH} {b n : Nat} {cap : Option Nat} {zs : List (Int × Int)} {rest : List AV} (hb : h.blk b = some (prs zs ++ rest)) (hn : n = zs.length) (hsz : zs.length < 4611686018427387904) :
    ACalls Try.prog 51 [.msl b 0 n cap, .fn 52 []] h fun r h' => r = .tup [] ∧ h' = h.put b (prs (sP cf2 zs) ++ rest) :=
  s_sortf2 sfLaysP Try.isAgg46 Try.sizeOf46 cf2 lt2_swo lt2_anti 52 (enters_of Try.func52 (by kernel_rfl) rfl) (fun x y W => c_52 x y W) hb hn hsz (by kernel_rfl)
theorem s_slices_SortFunc_Arc0 (nl : Bool) (tl : Tail) (h : AH) : ACalls Try.prog 64 [.sl nl 0 [] tl, .fn 65 []] h fun r h' => r = .tup [] ∧ h' = h := s_sortf2_nil sfLays 65 nl tl h (by kernel_rfl)
theorem s_slices_SortFunc_Pair0 (nl : Bool) (tl : Tail) (h : AH) : ACalls Try.prog 51 [.sl nl 0 [] tl, .fn 52 []] h fun r h' => r = .tup [] ∧ h' = h := s_sortf2_nil sfLaysP 52 nl tl h (by kernel_rfl)
end Go.Proofs.Ytndcbompcnlhmaa
