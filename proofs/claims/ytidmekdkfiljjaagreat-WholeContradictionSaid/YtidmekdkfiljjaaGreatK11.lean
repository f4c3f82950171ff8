/- Soundness of the operations that make what may be written, and of those that write. No condition. -/
import Derived.Test.YtidmekdkfiljjaaGreatK10
namespace Go.Abs
open Go

def SSound (P : Program) (o : Oper) (op : AOp) : Prop :=
  ∀ {N : Nat} {s : Sg} {e : Env} {h : AH} {w0 : World} {own : Nat → Prop} {a : Act} {w : World}, ASim N s e h w0 own a w →
    ∀ {K : AV → AH → Prop}, evS P op e h K → ∀ (next : Act → World → Prop) (Q : Exit → Act → World → Prop),
      (∀ (s' : Sg) (x : AV) (v : Value) (h' : AH) (w' : World), s.le s' → HSim s' h' w0 own w' → VRel s' x v → K x h' → next (a.put o.dst v) w') → o.wp P a w next Q

/-- A new block that may be written. -/
theorem HSim.newBlk {s : Sg} {h : AH} {w0 : World} {own : Nat → Prop} {w w' : World} (k : HSim s h w0 own w) (l : Later w w') {vs : Array Value} {e : TypeId} (hg : w'.heap[w.heap.size]? = some (.cells vs e (0, 0)))
    {cells : List AV} (hl : cells.length ≤ vs.size) (hr : ∀ (j : Nat) (x : AV), cells[j]? = some x → ∃ v, vs[j]? = some v ∧ v.oneCell' = true ∧ VRel s x v) :
    ∃ s', s.le s' ∧ HSim s' (h.put s.nb cells) w0 own w' ∧ s'.blk s.nb = some w.heap.size ∧ h.blk s.nb = none := by
  have hnb : s.blk s.nb = none := k.nb s.nb (Nat.le_refl _)
  have hhn : h.blk s.nb = none := by
    cases hb : h.blk s.nb with
    | none => rfl
    | some cs => obtain ⟨c, vs, t, a1, _⟩ := k.blk s.nb cs hb; rw [hnb] at a1; cases a1
  let s' : Sg := { s with blk := fun b => if b = s.nb then some w.heap.size else s.blk b, nb := s.nb + 1 }
  have hle : s.le s' := ⟨fun _ _ _ e => e, fun b c e => by
    show (if b = s.nb then _ else _) = _
    rw [if_neg (fun hb => by subst hb; rw [hnb] at e; cases e)]; exact e, fun t i e => ⟨i, e, Nat.le_refl _, fun _ => rfl⟩, fun _ _ e => e⟩
  obtain ⟨f1, f2, f3⟩ := k.new_free (Nat.le_refl w.heap.size)
  have k' := k.later l
  refine ⟨s', hle, ?_, if_pos rfl, hhn⟩
  have blkne : ∀ b c, b ≠ s.nb → s'.blk b = some c → s.blk b = some c := fun b c hb e => by
    have : s'.blk b = s.blk b := if_neg hb
    rw [this] at e; exact e
  exact {
    fx := k'.fx
    blk := fun b cs eb => by
      simp only [AH.put] at eb
      by_cases hb : b = s.nb
      · subst hb
        rw [if_pos rfl] at eb
        cases eb
        exact ⟨w.heap.size, vs, e, if_pos rfl, hg, hl, fun j x hx => by obtain ⟨v, b1, b2, b3⟩ := hr j x hx; exact ⟨v, b1, b2, b3.mono hle⟩, f1, .inl k.size⟩
      · rw [if_neg hb] at eb
        obtain ⟨c, ws, t, a1, a2, a3, a4, a5, a6⟩ := k'.blk b cs eb
        exact ⟨c, ws, t, hle.blk _ _ a1, a2, a3, fun j x hx => by obtain ⟨v, b1, b2, b3⟩ := a4 j x hx; exact ⟨v, b1, b2, b3.mono hle⟩, a5, a6⟩
    inj := fun b b' c e1 e2 e3 e4 => by
      simp only [AH.put] at e1 e2
      by_cases hb : b = s.nb
      · by_cases hb' : b' = s.nb
        · rw [hb, hb']
        · rw [if_neg hb'] at e2
          subst hb
          have : s'.blk s.nb = some w.heap.size := if_pos rfl
          rw [this] at e3; cases e3
          exact absurd (blkne b' _ hb' e4) (f2 b' e2)
      · rw [if_neg hb] at e1
        by_cases hb' : b' = s.nb
        · subst hb'
          have : s'.blk s.nb = some w.heap.size := if_pos rfl
          rw [this] at e4; cases e4
          exact absurd (blkne b _ hb e3) (f2 b e1)
        · rw [if_neg hb'] at e2
          exact k.inj b b' c e1 e2 (blkne b c hb e3) (blkne b' c hb' e4)
    tok := fun t n et => k'.tok t n et
    tokinj := k.tokinj
    tokblk := fun t n i b e1 e2 e3 e4 e5 => by
      simp only [AH.put] at e4
      by_cases hb : b = s.nb
      · subst hb
        have : s'.blk s.nb = some w.heap.size := if_pos rfl
        rw [this] at e5
        exact f3 t n i e1 e2 e3 (Option.some.inj e5).symm
      · rw [if_neg hb] at e4
        exact k.tokblk t n i b e1 e2 e3 e4 (blkne b _ hb e5)
    nb := fun b hb => by
      have h1 : ¬ b = s.nb := by have : s.nb + 1 ≤ b := hb; omega
      show (if b = s.nb then _ else _) = _
      rw [if_neg h1]
      exact k.nb b (by have : s.nb + 1 ≤ b := hb; omega)
    nt := k.nt
    mp := fun b es eb => by
      obtain ⟨c, mes, ck, a1, a2, a3, a4⟩ := k'.mp b es eb
      exact ⟨c, mes, ck, a1, a2, a3.mono hle, a4⟩
    minj := k.minj
    nm := k.nm
    frame := k'.frame
    size := k'.size
    os := k'.os
    tape := k'.tape
    output := k'.output }

theorem sS_alloc {P : Program} {o : Oper} {t : TypeId} {z : List AV} (ho : o.op = .alloc t) (hz : zeroT P t = some z) : SSound P o (.alloc z) := by
  intro N s e h w0 own a w hs K hk next Q hn
  obtain ⟨i, zv, hi, hzv, hr, h1, hlen⟩ := zeroT_inv hz s
  have hg : (w.alloc (.cells zv.cells t)).heap[w.heap.size]? = some (.cells zv.cells t (0, 0)) := push_new w _
  have hl : z.length = zv.cells.size := by rw [← hr.1]; simp
  obtain ⟨s', b1, b2, b3, b4⟩ := hs.heap.newBlk (Later.alloc w _) hg (cells := z) (by omega) (fun j x hx => by
    obtain ⟨v, hv, hrel⟩ := hr.at_ hx
    exact ⟨v, by simpa using hv, h1 v (List.mem_of_getElem? hv), hrel⟩)
  have hrun : (execOp a.eval o).run P w = .ok (.value (.pointer (some ⟨w.heap.size, 0, none⟩))) (w.alloc (.cells zv.cells t)) := by
    simp [execOp, ho, Instr.alloc, zeroValue, typeInfo, hi, hzv, newVar, newRow]
  unfold Oper.wp
  rw [hrun]
  exact hn s' _ _ _ _ b1 b2 (.ptr s.nb 0 w.heap.size b3) (hk s.nb b4)

theorem sS_box {P : Program} {o : Oper} {t : TypeId} {x : Operand} {ax : Arg} (ho : o.op = .box t x) (hx : cArg x = some ax) : SSound P o (.box ax) := by
  intro N s e h w0 own a w hs K hk next Q hn
  have r := cArg_rel hs hx
  obtain ⟨_, h1, hk⟩ := hk
  obtain ⟨hc, hone⟩ := r.cells h1
  have hg : (w.alloc (.cells (a.eval x).cells t)).heap[w.heap.size]? = some (.cells (a.eval x).cells t (0, 0)) := push_new w _
  obtain ⟨s', b1, b2, b3, b4⟩ := hs.heap.newBlk (Later.alloc w _) hg (cells := (ax.ev e).cells) (by rw [← hc.1]; simp) (fun j y hy => by
    obtain ⟨v, hv, hrel⟩ := hc.at_ hy
    exact ⟨v, by simpa using hv, hone v (List.mem_of_getElem? hv), hrel⟩)
  have hrun : (execOp a.eval o).run P w = .ok (.value (.pointer (some ⟨w.heap.size, 0, none⟩))) (w.alloc (.cells (a.eval x).cells t)) := by
    simp [execOp, ho, Instr.box, newVar, newRow]
  unfold Oper.wp
  rw [hrun]
  exact hn s' _ _ _ _ b1 b2 (.ptr s.nb 0 w.heap.size b3) (hk s.nb b4)

theorem sS_makeSlice {P : Program} {o : Oper} {t e' : TypeId} {i : TypeInfo} {l c : Operand} {al ac : Arg} {z : List AV} (ho : o.op = .makeSlice t l c) (hu : P.underlying t = some (.slice e')) (hi : P.info? e' = some i) (hz : zeroT P e' = some z)
    (hpos : i.size ≠ 0) (hl : cArg l = some al) (hc : cArg c = some ac) : SSound P o (.makeSlice i.size i.bytes z al ac) := by
  intro N s e h w0 own a w hs K hk next Q hn
  have rl := cArg_rel hs hl
  have rc := cArg_rel hs hc
  obtain ⟨i', zv, hi', hzv, hr, h1, hlen⟩ := zeroT_inv hz s
  rw [hi] at hi'; cases hi'
  simp only [evS] at hk
  split at hk
  · rename_i k1 p k2 q hb hb2
    rw [hb] at rl; rw [hb2] at rc
    obtain ⟨e1, _⟩ := rl.int_inv
    obtain ⟨e2, _⟩ := rc.int_inv
    obtain ⟨h0, hle, hc47, hbytes, hk⟩ := hk
    have hzs : zv.cells.size = i.size := by rw [← hlen, ← hr.1]; simp
    have hq63 : q ≤ 9223372036854775807 := by omega
    have hrun0 := run_make (P := P) w t e' i zv hu hi hzv k1 k2 p q h0 hle (by rw [Int.mul_comm]; omega) hq63
    have hzr := zeros_rel (s := s) hr (by rw [hlen]; omega) q.toNat
    rw [hzs] at hzr
    have hmade : madeCells zv.cells (q.toNat * i.size) = (Array.range (q.toNat * i.size)).map (zv.cells[· % i.size]!) := by simp only [madeCells, hzs]
    have hg : (w.alloc (.cells (madeCells zv.cells (q.toNat * i.size)) e')).heap[w.heap.size]? = some (.cells (madeCells zv.cells (q.toNat * i.size)) e' (0, 0)) := push_new w _
    obtain ⟨s', b1, b2, b3, b4⟩ := hs.heap.newBlk (Later.alloc w _) hg (cells := (List.replicate q.toNat z).flatten) (by rw [size_madeCells]; simp [hlen]) (fun j y hy => by
      rw [hmade]
      obtain ⟨v, hv, hrel⟩ := hzr.at_ hy
      have hv' : ((Array.range (q.toNat * i.size)).map (zv.cells[· % i.size]!))[j]? = some v := by simpa only [Array.getElem?_toList] using hv
      refine ⟨v, hv', ?_, hrel⟩
      have hm := List.mem_of_getElem? hv
      simp only [Array.toList_map, List.mem_map] at hm
      obtain ⟨j', _, rfl⟩ := hm
      have hmod : j' % i.size < zv.cells.size := by rw [hzs]; exact Nat.mod_lt _ (by omega)
      rw [getElem!_pos zv.cells _ hmod]
      exact h1 _ (by simp))
    have hrun : (execOp a.eval o).run P w = .ok (.value (.slice (some ⟨w.heap.size, 0, none⟩) p.toNat q.toNat)) (w.alloc (.cells (madeCells zv.cells (q.toNat * i.size)) e')) := by
      simp only [execOp, ho, e1, e2]
      rw [Sem.run_bind, hrun0]; rfl
    unfold Oper.wp
    rw [hrun]
    exact hn s' _ _ _ _ b1 b2 (.msl s.nb 0 p.toNat (some q.toNat) w.heap.size q.toNat b3 (by omega) (by omega) (fun _ e => (Option.some.inj e).symm)) (hk s.nb b4)
  · exact hk.elim

theorem spl_eq {α : Type} : ∀ (us l : List α) (off : Nat), off + us.length ≤ l.length → spl l off us = l.take off ++ us ++ l.drop (off + us.length) := by
  intro us
  induction us with
  | nil => intro l off _; simp [spl]
  | cons u us ih =>
    intro l off h
    simp only [List.length_cons] at h
    rw [spl, ih _ _ (by rw [List.length_set]; omega)]
    apply List.ext_getElem?
    intro j
    simp only [List.getElem?_append, List.length_append, List.length_take, List.length_set, List.getElem?_take, List.getElem?_drop, List.getElem?_set, List.length_cons]
    have e1 : min (off + 1) l.length = off + 1 := by omega
    have e2 : min off l.length = off := by omega
    rw [e1, e2]
    by_cases h1 : j < off
    · have a1 : j < off + 1 + us.length := by omega
      have a2 : j < off + 1 := by omega
      have a3 : j < off + (us.length + 1) := by omega
      have a4 : ¬ off = j := by omega
      simp [a1, a2, a3, h1, a4]
    · by_cases h2 : j = off
      · subst h2
        have a1 : j < j + 1 + us.length := by omega
        have a3 : j < j + (us.length + 1) := by omega
        have a5 : j < l.length := by omega
        simp [a1, a3, a5]
      · by_cases h3 : j < off + 1 + us.length
        · have a2 : ¬ j < off + 1 := by omega
          have a3 : j < off + (us.length + 1) := by omega
          have a4 : j - off = (j - (off + 1)) + 1 := by omega
          simp [h3, a2, a3, h1, a4]
        · have a3 : ¬ j < off + (us.length + 1) := by omega
          have a4 : ¬ off = off + 1 + us.length + (j - (off + 1 + us.length)) := by omega
          simp only [h3, a3, if_false, a4]
          congr 1
          omega

/-- Block b is written. -/
theorem HSim.setBlk {s : Sg} {h : AH} {w0 : World} {own : Nat → Prop} {w : World} (k : HSim s h w0 own w) {b c : Nat} {cells : List AV} {vs us : Array Value} {e : TypeId} (hb : h.blk b = some cells) (hc : s.blk b = some c)
    (hg : w.heap[c]? = some (.cells vs e (0, 0))) {cells' : List AV} (hl : cells'.length ≤ us.size) (hr : ∀ (j : Nat) (x : AV), cells'[j]? = some x → ∃ v, us[j]? = some v ∧ v.oneCell' = true ∧ VRel s x v) :
    HSim s (h.put b cells') w0 own (w.setRow c us) := by
  obtain ⟨c', vs', ty, a1, a2, a3, a4, a5, a6⟩ := k.blk b cells hb
  rw [hc] at a1; cases a1
  have hother : ∀ j, j ≠ c → (w.setRow c us).heap[j]? = w.heap[j]? := fun j hj => setRow_other w c j us hj
  have halive : ∀ x, (h.put b cells').blk x ≠ none → h.blk x ≠ none := by
    intro x hx
    simp only [AH.put] at hx
    split at hx
    · rename_i hxb; subst hxb; rw [hb]; simp
    · exact hx
  exact {
    fx := fun g o v ev => by
      obtain ⟨h1, h2⟩ := k.fx g o v ev
      refine ⟨?_, h2⟩
      rw [← h1]
      exact World.cell?_of_block (w := w) (a := ⟨g, o, none⟩) (hother g (fun hgc => by subst hgc; rw [a5 o] at ev; cases ev))
    blk := fun x cs ex => by
      simp only [AH.put] at ex
      by_cases hx : x = b
      · subst hx
        rw [if_pos rfl] at ex
        cases ex
        exact ⟨c, us, e, hc, setRow_heap w c vs us e _ hg, hl, hr, a5, a6⟩
      · rw [if_neg hx] at ex
        obtain ⟨d, ws, t, b1, b2, b3⟩ := k.blk x cs ex
        refine ⟨d, ws, t, b1, ?_, b3⟩
        rw [hother d (fun hdc => hx (k.inj x b d (by rw [ex]; simp) (by rw [hb]; simp) b1 (by rw [hdc]; exact hc)))]
        exact b2
    inj := fun x y d e1 e2 e3 e4 => k.inj x y d (halive x e1) (halive y e2) e3 e4
    tok := fun t n et => by
      obtain ⟨i, b1, b2, b2', b3⟩ := k.tok t n et
      refine ⟨i, b1, b2, b2', b3.imp id fun ⟨c1, ws, ty, c2, c3⟩ => ⟨c1, ws, ty, ?_, c3⟩⟩
      rw [hother _ (fun hic => k.tokblk t n i b et b1 c1 (by rw [hb]; simp) (by rw [hic]; exact hc))]
      exact c2
    tokinj := k.tokinj
    tokblk := fun t n i x e1 e2 e3 e4 => k.tokblk t n i x e1 e2 e3 (halive x e4)
    nb := k.nb
    nt := k.nt
    mp := fun x es ex => by
      obtain ⟨d, mes, ck, b1, b2, b3⟩ := k.mp x es ex
      refine ⟨d, mes, ck, b1, ?_, b3⟩
      rw [hother d (fun hdc => by rw [hdc, hg] at b2; cases b2)]
      exact b2
    minj := k.minj
    nm := k.nm
    frame := fun j hj ho => by
      rw [hother j (fun hjc => by subst hjc; rcases a6 with h1 | h1; omega; exact ho h1)]
      exact k.frame j hj ho
    size := by
      have : (w.setRow c us).heap.size = w.heap.size := by simp [World.setRow]
      rw [this]; exact k.size
    os := k.os
    tape := k.tape
    output := k.output }

/-- Storing cells into a block. -/
theorem run_store_blk {P : Program} {s : Sg} {h : AH} {w0 : World} {own : Nat → Prop} {w : World} (k : HSim s h w0 own w) {b c off : Nat} {cs xs : List AV} {us : List Value} (hb : h.blk b = some cs) (hc : s.blk b = some c)
    (hx : VRels s xs us) (h1 : ∀ u ∈ us, u.oneCell' = true) (hfit : off + xs.length ≤ cs.length) :
    ∃ w', (storeCells ⟨c, off, none⟩ us).run P w = .ok () w' ∧ HSim s (h.put b (spl cs off xs)) w0 own w' := by
  obtain ⟨c', vs, ty, a1, a2, a3, a4, a5, a6⟩ := k.blk b cs hb
  rw [hc] at a1; cases a1
  have hul : us.length = xs.length := hx.1
  have hrun := run_storeCells_at P c off ty us 0 vs w a2 (by omega) h1
  simp only [Nat.add_zero] at hrun
  refine ⟨_, hrun, ?_⟩
  have he : vs.toList.take off ++ us ++ vs.toList.drop (off + us.length) = spl vs.toList off us := (spl_eq us vs.toList off (by simp; omega)).symm
  rw [he]
  have hr : VRels s cs (vs.toList.take cs.length) := ⟨by simp; omega, fun j x v hx hv => by
    obtain ⟨v', hv', _, hr⟩ := a4 j x hx
    rw [List.getElem?_take] at hv
    split at hv
    · have : vs[j]? = some v := by simpa using hv
      rw [hv'] at this; cases this; exact hr
    · cases hv⟩
  refine k.setBlk hb hc a2 (by rw [spl_length]; simp [spl_length]; omega) (fun j x hx' => ?_)
  have hs := VRels.spl off hx hr
  obtain ⟨v, hv, hrel⟩ := hs.at_ hx'
  have hj : j < cs.length := by have := (List.getElem?_eq_some_iff.1 hx').1; rwa [spl_length] at this
  have hsame : (spl vs.toList off us)[j]? = some v := by
    rw [spl_eq _ _ _ (by simp; omega)] at hv
    rw [spl_eq _ _ _ (by simp; omega)]
    rw [← hv]
    simp only [List.getElem?_append, List.length_append, List.length_take, List.getElem?_take, List.getElem?_drop]
    have e1 : min off vs.toList.length = off := by simp; omega
    have e2 : min off (min cs.length vs.toList.length) = off := by simp; omega
    rw [e1, e2]
    by_cases h1 : j < off + us.length
    · simp only [h1, if_true]
      by_cases h2 : j < off
      · have : j < cs.length := by omega
        simp [h2, this]
      · simp [h2]
    · simp only [h1, if_false]
      have : off + us.length + (j - (off + us.length)) < cs.length := by omega
      rw [if_pos this]
  refine ⟨v, by simpa using hsame, ?_, hrel⟩
  have hm := List.mem_of_getElem? hv
  exact spl_one (fun v : Value => v.oneCell' = true) us _ off (fun y hy => by
    obtain ⟨q, hq, rfl⟩ := List.getElem_of_mem hy
    have hq' := List.getElem?_eq_getElem hq
    have hql : q < cs.length := by rw [← hr.1]; exact hq
    obtain ⟨v', hv', ho, _⟩ := a4 q _ (List.getElem?_eq_getElem hql)
    rw [List.getElem?_take] at hq'
    rw [if_pos hql] at hq'
    have : vs[q]? = some ((vs.toList.take cs.length)[q]) := by simpa only [Array.getElem?_toList] using hq'
    rw [hv'] at this; cases this; exact ho) h1 v hm

theorem sS_store {P : Program} {o : Oper} {t : TypeId} {x y : Operand} {ax ay : Arg} {n : Nat} (ho : o.op = .store t x y) (hz : sizeT P t = some n) (hx : cArg x = some ax) (hy : cArg y = some ay) : SSound P o (.store n ax ay) := by
  intro N s e h w0 own a w hs K hk next Q hn
  have rx := cArg_rel hs hx
  have ry := cArg_rel hs hy
  simp only [evS] at hk
  split at hk
  · rename_i b off hb
    rw [hb] at rx
    obtain ⟨c, ev, hc⟩ := rx.ptr_inv
    obtain ⟨cs, hcs, hlen, h1, hfit, hk⟩ := hk
    obtain ⟨hr, hone⟩ := ry.cells h1
    obtain ⟨w', hrun, hh⟩ := run_store_blk (P := P) hs.heap hcs hc hr hone (off := off) (by omega)
    have hsz : (a.eval y).cells.size = n := by rw [← hlen, ← hr.1]; simp
    have hrun' : (execOp a.eval o).run P w = .ok .skip w' := by
      simp [execOp, ho, ev, Instr.storeAt, Instr.sureAddr, storeVar, sizeT_run hz, hsz, hrun]
    unfold Oper.wp
    rw [hrun']
    exact hn s .undef undef _ w' (Sg.le.refl s) hh (.undef _) hk
  · exact hk.elim

theorem sS_copy {P : Program} {o : Oper} {t u e' : TypeId} {x y : Operand} {ax ay : Arg} {c : Call} {size : Nat} (ho : o.op = .call c) (hc : c.callee = .builtin .copy) (ha : c.args = #[x, y]) (hty : c.argTypes = #[t, u])
    (hu : P.underlying t = some (.slice e')) (hz : sizeT P e' = some size) (hx : cArg x = some ax) (hy : cArg y = some ay) : SSound P o (.copy size ax ay) := by
  intro N s e h w0 own a w hs K hk next Q hn
  have rx := cArg_rel hs hx
  have ry := cArg_rel hs hy
  simp only [evS] at hk
  split at hk
  · rename_i b off n cap hb
    rw [hb] at rx
    obtain ⟨c', k, ev, hc', hnk, hmax, hq⟩ := rx.msl_inv
    obtain ⟨cs, hcs, hfit, hk⟩ := hk
    obtain ⟨B, m, cc, ys, news, ev2, hr2, hl2, hc2, h12, hB, h1, hk⟩ := rdSl_inv hs.heap ry hk
    have hmin : Nat.min m n * size ≤ m * size := Nat.mul_le_mul_right _ (Nat.min_le_left _ _)
    have hmin2 : Nat.min m n * size ≤ n * size := Nat.mul_le_mul_right _ (Nat.min_le_right _ _)
    have hrt := hr2.take (Nat.min m n * size)
    have hlt : (ys.take (Nat.min m n * size)).length = Nat.min m n * size := by rw [List.length_take, ← hr2.1, hl2]; omega
    obtain ⟨w', hrun, hh⟩ := run_store_blk (P := P) hs.heap hcs hc' hrt (fun v hv => h12 v (List.mem_of_mem_take hv)) (off := off) (by rw [hlt]; omega)
    have hread : (Builtin.firstCells size (Nat.min m n) (.slice B m cc)).run P w = .ok (news.take (Nat.min m n * size)).toArray w := by
      cases B with
      | none =>
        have hm0 := hB rfl
        subst hm0
        have : news = [] := List.eq_nil_of_length_eq_zero (by rw [hl2]; simp)
        subst this
        simp [Builtin.firstCells]
      | some B =>
        have := run_loadCells_list (P := P) w B (news.take (Nat.min m n * size)) (fun j v hv => by
          rw [List.getElem?_take] at hv
          split at hv
          · obtain ⟨b', e1, e2⟩ := hc2 j v hv; cases e1; exact e2
          · cases hv)
        have hnl : (news.take (Nat.min m n * size)).length = Nat.min m n * size := by rw [List.length_take, hl2]; omega
        rw [hnl] at this
        simpa [Builtin.firstCells] using this
    have hrun' : (execOp a.eval o).run P w = .ok (.value (.int .i64 (Nat.min m n : Nat))) w' := by
      simp only [execOp, ho, resolve, hc, ha, hty, invoke, builtin, List.map_toArray, List.map_cons, List.map_nil, ev, ev2, Builtin.copy_, Sem.run_bind, Sem.run_pure, Result.andThen_ok]
      simp [run_underlying hu, Builtin.lenOf, sizeT_run hz, hread, hrun, goInt]
    unfold Oper.wp
    rw [hrun']
    refine hn s _ _ _ w' (Sg.le.refl s) hh (.int .i64 _ ?_) hk
    have : Nat.min m n ≤ n := Nat.min_le_right _ _
    simp only [InR, IntKind.min, IntKind.max, IntKind.signed, IntKind.bits]
    simp
    omega
  · exact hk.elim
end Go.Abs
