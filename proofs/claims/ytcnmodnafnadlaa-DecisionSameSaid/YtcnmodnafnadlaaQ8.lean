/- A new block that lies wherever a call has laid it; Go's SortedFunc over the values of a map, with its answer in memory. No condition. -/
import Derived.Test.YtcnmodnafnadlaaQ7
namespace Go.Abs
open Go
/-- A new block that may be written. -/
theorem HSim.newBlkAt {s : Sg} {h : AH} {w0 : World} {own : Nat → Prop} {w w' : World} (k : HSim s h w0 own w) (l : Later w w') {g : Nat} (hgw : w.heap.size ≤ g) {vs : Array Value} {e : TypeId} (hg : w'.heap[g]? = some (.cells vs e (0, 0)))
    {cells : List AV} (hl : cells.length ≤ vs.size) (hr : ∀ (j : Nat) (x : AV), cells[j]? = some x → ∃ v, vs[j]? = some v ∧ v.oneCell' = true ∧ VRel s x v) :
    ∃ s', s.le s' ∧ HSim s' (h.put s.nb cells) w0 own w' ∧ s'.blk s.nb = some g ∧ h.blk s.nb = none := by
  have hnb : s.blk s.nb = none := k.nb s.nb (Nat.le_refl _)
  have hhn : h.blk s.nb = none := by
    cases hb : h.blk s.nb with
    | none => rfl
    | some cs => obtain ⟨c, vs, t, a1, _⟩ := k.blk s.nb cs hb; rw [hnb] at a1; cases a1
  let s' : Sg := { s with blk := fun b => if b = s.nb then some g else s.blk b, nb := s.nb + 1 }
  have hle : s.le s' := ⟨fun _ _ _ e => e, fun b c e => by
    show (if b = s.nb then _ else _) = _
    rw [if_neg (fun hb => by subst hb; rw [hnb] at e; cases e)]; exact e, fun t i e => ⟨i, e, Nat.le_refl _, fun _ => rfl⟩, fun _ _ e => e⟩
  obtain ⟨f1, f2, f3⟩ := k.new_free hgw
  have k' := k.later l
  refine ⟨s', hle, ?_, if_pos rfl, hhn⟩
  have blkne : ∀ b c, b ≠ s.nb → s'.blk b = some c → s.blk b = some c := fun b c hb e => by
    have : s'.blk b = s.blk b := if_neg hb
    rw [this] at e; exact e
  exact {
    fx := k'.fx
    blk := fun b cs eb => by
      simp only [AH.put] at eb
      by_cases hb : b = s.nb
      · subst hb
        rw [if_pos rfl] at eb
        cases eb
        exact ⟨g, vs, e, if_pos rfl, hg, hl, fun j x hx => by obtain ⟨v, b1, b2, b3⟩ := hr j x hx; exact ⟨v, b1, b2, b3.mono hle⟩, f1, .inl (Nat.le_trans k.size hgw)⟩
      · rw [if_neg hb] at eb
        obtain ⟨c, ws, t, a1, a2, a3, a4, a5, a6⟩ := k'.blk b cs eb
        exact ⟨c, ws, t, hle.blk _ _ a1, a2, a3, fun j x hx => by obtain ⟨v, b1, b2, b3⟩ := a4 j x hx; exact ⟨v, b1, b2, b3.mono hle⟩, a5, a6⟩
    inj := fun b b' c e1 e2 e3 e4 => by
      simp only [AH.put] at e1 e2
      by_cases hb : b = s.nb
      · by_cases hb' : b' = s.nb
        · rw [hb, hb']
        · rw [if_neg hb'] at e2
          subst hb
          have : s'.blk s.nb = some g := if_pos rfl
          rw [this] at e3; cases e3
          exact absurd (blkne b' _ hb' e4) (f2 b' e2)
      · rw [if_neg hb] at e1
        by_cases hb' : b' = s.nb
        · subst hb'
          have : s'.blk s.nb = some g := if_pos rfl
          rw [this] at e4; cases e4
          exact absurd (blkne b _ hb e3) (f2 b e1)
        · rw [if_neg hb'] at e2
          exact k.inj b b' c e1 e2 (blkne b c hb e3) (blkne b' c hb' e4)
    tok := fun t n et => k'.tok t n et
    tokinj := k.tokinj
    tokblk := fun t n i b e1 e2 e3 e4 e5 => by
      simp only [AH.put] at e4
      by_cases hb : b = s.nb
      · subst hb
        have : s'.blk s.nb = some g := if_pos rfl
        rw [this] at e5
        exact f3 t n i e1 e2 e3 (Option.some.inj e5).symm
      · rw [if_neg hb] at e4
        exact k.tokblk t n i b e1 e2 e3 e4 (blkne b _ hb e5)
    nb := fun b hb => by
      have h1 : ¬ b = s.nb := by have : s.nb + 1 ≤ b := hb; omega
      show (if b = s.nb then _ else _) = _
      rw [if_neg h1]
      exact k.nb b (by have : s.nb + 1 ≤ b := hb; omega)
    nt := k.nt
    mp := fun b es eb => by
      obtain ⟨c, mes, ck, a1, a2, a3, a4⟩ := k'.mp b es eb
      exact ⟨c, mes, ck, a1, a2, a3.mono hle, a4⟩
    minj := k.minj
    nm := k.nm
    frame := k'.frame
    size := k'.size
    os := k'.os
    tape := k'.tape
    output := k'.output }
end Go.Abs
namespace Go.Proofs.Ytcnmodnafnadlaa
set_option maxRecDepth 100000
open Go Go.Abs Go.Shelf Go.Proofs Go.RowKit Go.Maps Go.Sort
set_option linter.unusedSimpArgs false
set_option linter.unusedVariables false
theorem acall_of_row5 {P : Program} {f : FuncId} {args : List AV} {t : TypeId} {zs : List Dec} (hok : callOK P f = true) (h : AH)
    (H : ∀ (s : Sg) (h' : AH) (vs : List Value) (w : World), AH.leB h h' → VRels s args vs → HSim s h' w (ownOf s h') w → (∀ x ∈ zs, InR .i64 x.au ∧ InR .i64 x.nu ∧ InR .i64 x.ki ∧ InR .i64 x.a ∧ InR .i64 x.b) ∧ Calls P f vs.toArray w fun e w' => ∃ v : Value, e = .returned v ∧
      w'.ownsRow w.heap.size t 5 v zs.length (f5 zs) ∧ (v = .slice none 0 0 ↔ zs = []) ∧ Below w.heap.size w w') :
    ACalls P f args h fun r g => (zs = [] ∧ r = .sl true 0 [] .unk ∧ g = h) ∨ (zs ≠ [] ∧ ∃ b cap, h.blk b = none ∧ zs.length ≤ cap ∧ r = .msl b 0 zs.length (some cap) ∧ g = h.put b (dcs zs)) := by
  refine ⟨hok, fun s vs w hv hs => ?_⟩
  obtain ⟨hz, hH⟩ := H s h vs w (AH.leB.refl h) hv hs
  refine hH.mono ?_
  rintro e w' ⟨v, rfl, hrow, hnil, hb⟩
  have hlat : Later w w' := ⟨hb.block, hb.size, hb.os, hb.tape, hb.output⟩
  rcases hrow.2 with ⟨rfl, hz0⟩ | ⟨gb, cap, cur, rfl, hbase, hgb, r1, r2, r3, r4⟩
  · have hss : zs = [] := List.eq_nil_of_length_eq_zero hz0
    subst hss
    exact ⟨s, _, _, h, Sg.le.refl s, hs.later hlat, rfl, .sl true 0 [] .unk none 0 [] rfl (by simp) (by simp) rfl (fun _ => ⟨rfl, rfl⟩) (by simp) (Nat.le_refl _) (by omega) trivial, .inl ⟨rfl, rfl, rfl⟩⟩
  · have hne : zs ≠ [] := fun hh => by have := hnil.2 hh; cases this
    have hcur : ∀ j v, (f5 zs)[j]? = some v → cur[j]? = some v := fun j v hj => by
      have hjl : j < zs.length * 5 := by
        have := (List.getElem?_eq_some_iff.1 hj).1
        rwa [f5_len] at this
      have e1 : (cur.toList.take (zs.length * 5))[j]? = (f5 zs)[j]? := by rw [r4]
      rw [List.getElem?_take, if_pos hjl] at e1
      simp only [Array.getElem?_toList] at e1
      rw [e1, hj]
    have hone : ∀ v ∈ f5 zs, v.oneCell' = true := fun v hv => by
      obtain ⟨x, _, hx⟩ := List.mem_flatMap.1 hv
      exact e5_one x v hx
    have hrel := dcs_rel (s := s) hz
    obtain ⟨s', a1, a2, a3, a4⟩ := hs.newBlkAt hlat hbase hgb (cells := dcs zs) (by rw [dcs_len, r3]; exact Nat.mul_le_mul_right 5 r1) (fun j x hx => by
      obtain ⟨u, u1, u2⟩ := hrel.at_ hx
      exact ⟨u, hcur j u u1, hone u (List.mem_of_getElem? u1), u2⟩)
    refine ⟨s', _, _, _, a1, a2, rfl, .msl s.nb 0 zs.length (some cap) gb cap a3 r1 (by have := r2; simp only [maxLen] at this; omega) (fun q hq => by cases hq; rfl), .inr ⟨hne, s.nb, cap, a4, r1, rfl, rfl⟩⟩
theorem s_slices_SortedFunc5 (b : Nat) (es : List (AV × AV)) (D E : List Dec) (h : AH) (hmp : h.mp b = some es) (hes : es.map (·.2) = E.map fun x => .st x.cs) (hE : E.Perm D) (hD : D.Pairwise fun x y => ltOf cfD x y = true) (hln : D.length ≤ 1000000) :
    ACalls Try.prog 42 [.fn 63 [.sptr [.map b]], .fn 44 []] h fun r g => (D = [] ∧ r = .sl true 0 [] .unk ∧ g = h) ∨ (D ≠ [] ∧ ∃ b cap, h.blk b = none ∧ D.length ≤ cap ∧ r = .msl b 0 D.length (some cap) ∧ g = h.put b (dcs D)) :=
  acall_of_row5 (t := 31) (by kernel_rfl) h (sfH5 b es D E h hmp hes hE hD hln)
end Go.Proofs.Ytcnmodnafnadlaa
