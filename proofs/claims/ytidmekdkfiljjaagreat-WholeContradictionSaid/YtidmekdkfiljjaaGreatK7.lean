/- Soundness of the operations that turn nothing: what makes new memory that is then fixed. No condition. -/
import Derived.Test.YtidmekdkfiljjaaGreatK6
namespace Go.Abs
open Go

theorem push_old (w : World) (o : Obj) (k : Nat) (h : k < w.heap.size) : (w.alloc o).heap[k]? = w.heap[k]? := by
  show (w.heap.push o)[k]? = _
  rw [Array.getElem?_push, if_neg (by omega)]
theorem push_new (w : World) (o : Obj) : (w.alloc o).heap[w.heap.size]? = some o := by
  show (w.heap.push o)[w.heap.size]? = _
  simp
theorem lt_of_heap {w : World} {k : Nat} {o : Obj} (h : w.heap[k]? = some o) : k < w.heap.size := (Array.getElem?_eq_some_iff.1 h).1
theorem lt_of_cell {w : World} {b o : Nat} {v : Value} (h : w.cell? ⟨b, o, none⟩ = some v) : b < w.heap.size := by
  unfold World.cell? at h
  split at h
  · rename_i heq; exact lt_of_heap heq
  · cases h

/-- A world in which all that was there is as it was. -/
structure Later (w w' : World) : Prop where
  block : ∀ k, k < w.heap.size → w'.heap[k]? = w.heap[k]?
  size : w.heap.size ≤ w'.heap.size
  os : w'.os = w.os
  tape : w'.tape = w.tape
  output : w'.output = w.output
theorem Later.alloc (w : World) (o : Obj) : Later w (w.alloc o) := ⟨fun k hk => push_old w o k hk, (by show w.heap.size ≤ (w.heap.push o).size; simp), rfl, rfl, rfl⟩
theorem Later.drew_alloc (w : World) (o : Obj) : Later w (w.drew.alloc o) := ⟨fun k hk => push_old w.drew o k hk, (by show w.heap.size ≤ (w.heap.push o).size; simp), rfl, rfl, rfl⟩

theorem HSim.later {s : Sg} {h : AH} {w0 : World} {own : Nat → Prop} {w w' : World} (k : HSim s h w0 own w) (l : Later w w') : HSim s h w0 own w' where
  fx := fun b o v e => by
    obtain ⟨h1, h2⟩ := k.fx b o v e
    refine ⟨?_, h2⟩
    rw [← h1]
    exact World.cell?_of_block (w := w) (w' := w') (a := ⟨b, o, none⟩) (l.block b (lt_of_cell h1))
  blk := fun b cells e => by
    obtain ⟨c, vs, t, h1, h2, h3⟩ := k.blk b cells e
    exact ⟨c, vs, t, h1, by rw [l.block c (lt_of_heap h2)]; exact h2, h3⟩
  inj := k.inj
  tok := fun t n e => by
    obtain ⟨i, h1, h2, h2', h3⟩ := k.tok t n e
    refine ⟨i, h1, h2, h2', h3.imp id fun ⟨a1, vs, ty, a2, a3⟩ => ⟨a1, vs, ty, by rw [l.block _ (lt_of_heap a2)]; exact a2, a3⟩⟩
  tokinj := k.tokinj
  tokblk := k.tokblk
  nb := k.nb
  nt := k.nt
  mp := fun b es e => by
    obtain ⟨c, mes, ck, h1, h2, h3⟩ := k.mp b es e
    exact ⟨c, mes, ck, h1, by rw [l.block c (lt_of_heap h2)]; exact h2, h3⟩
  minj := k.minj
  nm := k.nm
  frame := fun j hj ho => (l.block j (Nat.lt_of_lt_of_le hj k.size)).trans (k.frame j hj ho)
  size := Nat.le_trans k.size l.size
  os := l.os.trans k.os
  tape := l.tape.trans k.tape
  output := l.output.trans k.output

/-- The first n cells of block g become fixed. -/
def Sg.fxNew (s : Sg) (g : Nat) (vs : List Value) : Sg := { s with fx := fun b o => if b = g then vs[o]? else s.fx b o }

theorem HSim.addFx {s : Sg} {h : AH} {w0 : World} {own : Nat → Prop} {w : World} (k : HSim s h w0 own w) {g : Nat} {arr : Array Value} {e : TypeId} {fr : Nat × Nat} (hg : w.heap[g]? = some (.cells arr e fr))
    (vs : List Value) (hv : ∀ (j : Nat) (v : Value), vs[j]? = some v → arr[j]? = some v) (h1 : ∀ v ∈ vs, v.oneCell' = true) (hfx : ∀ o, s.fx g o = none)
    (hb : ∀ b, h.blk b ≠ none → s.blk b ≠ some g) (ht : ∀ t n i, h.tok t = some n → s.tok t = some i → n.1 < i.cap → i.blk ≠ g) :
    s.le (s.fxNew g vs) ∧ HSim (s.fxNew g vs) h w0 own w := by
  have hle : s.le (s.fxNew g vs) := by
    refine ⟨fun b o v e => ?_, fun _ _ e => e, fun t i e => ⟨i, e, Nat.le_refl _, fun _ => rfl⟩, fun _ _ e => e⟩
    simp only [Sg.fxNew]
    rw [if_neg (fun hbg => by subst hbg; rw [hfx o] at e; cases e)]
    exact e
  refine ⟨hle, ?_⟩
  exact {
    fx := fun b o v e => by
      simp only [Sg.fxNew] at e
      split at e
      · rename_i hbg
        subst hbg
        refine ⟨?_, h1 v (List.mem_of_getElem? e)⟩
        simp only [World.cell?, hg]
        simpa using hv o v e
      · exact k.fx b o v e
    blk := fun b cells e => by
      obtain ⟨c, ws, t, a1, a2, a3, a4, a5, a6⟩ := k.blk b cells e
      refine ⟨c, ws, t, a1, a2, a3, fun j x hx => ?_, fun o => ?_, a6⟩
      · obtain ⟨v, b1, b2, b3⟩ := a4 j x hx
        exact ⟨v, b1, b2, b3.mono hle⟩
      · simp only [Sg.fxNew]
        rw [if_neg (fun hcg => hb b (by rw [e]; simp) (by rw [a1, hcg]))]
        exact a5 o
    inj := k.inj
    tok := fun t n e => by
      obtain ⟨i, a1, a2, a2', a3⟩ := k.tok t n e
      refine ⟨i, a1, a2, a2', a3.imp id fun ⟨b1, ws, ty, b2, b3, b4, b5⟩ => ⟨b1, ws, ty, b2, b3, fun o ho => ?_, b5⟩⟩
      simp only [Sg.fxNew]
      rw [if_neg (ht t n i e a1 b1)]
      exact b4 o ho
    tokinj := k.tokinj
    tokblk := k.tokblk
    nb := k.nb
    nt := k.nt
    mp := fun b es e => by
      obtain ⟨c, mes, ck, h1, h2, h3, h4⟩ := k.mp b es e
      exact ⟨c, mes, ck, h1, h2, h3.mono hle, h4⟩
    minj := k.minj
    nm := k.nm
    frame := k.frame
    size := k.size
    os := k.os
    tape := k.tape
    output := k.output }

/-- What no world knows yet bears no mark. -/
theorem HSim.new_free {s : Sg} {h : AH} {w0 : World} {own : Nat → Prop} {w : World} (k : HSim s h w0 own w) {g : Nat} (hg : w.heap.size ≤ g) :
    (∀ o, s.fx g o = none) ∧ (∀ b, h.blk b ≠ none → s.blk b ≠ some g) ∧ (∀ t n i, h.tok t = some n → s.tok t = some i → n.1 < i.cap → i.blk ≠ g) := by
  refine ⟨fun o => ?_, fun b hb e => ?_, fun t n i e1 e2 e3 e4 => ?_⟩
  · cases hv : s.fx g o with
    | none => rfl
    | some v => have := lt_of_cell (k.fx g o v hv).1; omega
  · cases hc : h.blk b with
    | none => exact hb hc
    | some cs =>
      obtain ⟨c, vs, t, a1, a2, _⟩ := k.blk b cs hc
      rw [e] at a1; cases a1
      have := lt_of_heap a2; omega
  · obtain ⟨i', a1, a2, _, a3⟩ := k.tok t n e1
    rw [e2] at a1; cases a1
    rcases a3 with a3 | ⟨_, vs, ty, a4, _⟩
    · omega
    · have := lt_of_heap a4; omega

/-- A new block whose first cells are fixed. -/
theorem HSim.alloc_fx {s : Sg} {h : AH} {w0 : World} {own : Nat → Prop} {w w' : World} (k : HSim s h w0 own w) (l : Later w w') {arr : Array Value} {e : TypeId} (hg : w'.heap[w.heap.size]? = some (.cells arr e (0, 0)))
    (vs : List Value) (hv : ∀ (j : Nat) (v : Value), vs[j]? = some v → arr[j]? = some v) (h1 : ∀ v ∈ vs, v.oneCell' = true) :
    s.le (s.fxNew w.heap.size vs) ∧ HSim (s.fxNew w.heap.size vs) h w0 own w' ∧ ∀ (j : Nat) (v : Value), vs[j]? = some v → (s.fxNew w.heap.size vs).fx w.heap.size j = some v := by
  obtain ⟨f1, f2, f3⟩ := k.new_free (Nat.le_refl w.heap.size)
  obtain ⟨a1, a2⟩ := (k.later l).addFx hg vs hv h1 f1 f2 f3
  exact ⟨a1, a2, fun j v hj => by simp [Sg.fxNew, hj]⟩

theorem getElem?_rep {α : Type} (z : List α) : ∀ (n j : Nat), (List.replicate n z).flatten[j]? = if j < n * z.length then z[j % z.length]? else none := by
  intro n
  induction n with
  | zero => intro j; simp
  | succ n ih =>
    intro j
    rw [List.replicate_succ, List.flatten_cons, List.getElem?_append]
    by_cases hj : j < z.length
    · rw [if_pos hj, if_pos (by rw [Nat.add_mul]; omega), Nat.mod_eq_of_lt hj]
    · rw [if_neg hj, ih]
      have hz : z.length ≤ j := by omega
      rw [Nat.mod_eq_sub_mod hz]
      by_cases h2 : j - z.length < n * z.length
      · rw [if_pos h2, if_pos (by rw [Nat.add_mul]; omega)]
      · rw [if_neg h2, if_neg (by rw [Nat.add_mul]; omega)]

theorem zeros_rel {s : Sg} {z : List AV} {zv : Array Value} (h : VRels s z zv.toList) (hpos : 0 < z.length) (n : Nat) : VRels s (List.replicate n z).flatten ((Array.range (n * zv.size)).map (zv[· % zv.size]!)).toList := by
  have hsz : zv.size = z.length := by rw [← h.1]; simp
  refine ⟨by simp [hsz], fun j x v hx hv => ?_⟩
  rw [getElem?_rep] at hx
  split at hx
  · rename_i hj
    have hm : j % z.length < z.length := Nat.mod_lt _ hpos
    simp only [Array.toList_map, List.getElem?_map, Array.getElem?_toList] at hv
    rw [Array.getElem?_range, if_pos (by rw [hsz]; exact hj)] at hv
    simp at hv
    subst hv
    refine h.2 (j % z.length) x _ hx ?_
    have hm' : j % z.length < zv.size := by rw [hsz]; exact hm
    rw [hsz]
    rw [getElem!_pos zv (j % z.length) hm']
    simp [hm']
  · cases hx

theorem VRels.spl {s : Sg} : ∀ {us : List AV} {ws : List Value} {xs : List AV} {vs : List Value} (off : Nat), VRels s us ws → VRels s xs vs → VRels s (Go.Abs.spl xs off us) (Go.Abs.spl vs off ws) := by
  intro us
  induction us with
  | nil =>
    intro ws xs vs off h k
    have : ws = [] := List.eq_nil_of_length_eq_zero (by simpa using h.1)
    subst this
    exact k
  | cons u us ih =>
    intro ws xs vs off h k
    cases ws with
    | nil => simp [VRels] at h
    | cons w ws =>
      have hu : VRel s u w := h.2 0 u w rfl rfl
      have ht : VRels s us ws := ⟨by simpa using h.1, fun j x v hx hv => h.2 (j + 1) x v (by simpa using hx) (by simpa using hv)⟩
      refine ih (off + 1) ht ⟨by simp [k.1], fun j x v hx hv => ?_⟩
      rw [List.getElem?_set] at hx hv
      by_cases ho : off = j
      · subst ho
        simp only [if_true] at hx hv
        split at hx
        · cases hx
          split at hv
          · cases hv; exact hu
          · cases hv
        · cases hx
      · rw [if_neg ho] at hx hv
        exact k.2 j x v hx hv

theorem spl_length {α : Type} : ∀ (us xs : List α) (off : Nat), (spl xs off us).length = xs.length := by
  intro us
  induction us with
  | nil => intro xs off; rfl
  | cons u us ih => intro xs off; simp [spl, ih]

theorem foldl_set (off : Nat) : ∀ (l : List Value) (k : Nat) (arr : Array Value), ((l.zipIdx k).foldl (fun cs (x : Value × Nat) => cs.setIfInBounds (off + x.2) x.1) arr).toList = spl arr.toList (off + k) l := by
  intro l
  induction l with
  | nil => intro k arr; rfl
  | cons x l ih =>
    intro k arr
    simp only [List.zipIdx_cons, List.foldl_cons, spl]
    rw [ih (k + 1)]
    simp [Nat.add_assoc]

theorem spl_one {α : Type} (p : α → Prop) : ∀ (us xs : List α) (off : Nat), (∀ x ∈ xs, p x) → (∀ x ∈ us, p x) → ∀ x ∈ spl xs off us, p x := by
  intro us
  induction us with
  | nil => intro xs off h _ x hx; exact h x hx
  | cons u us ih =>
    intro xs off h k x hx
    refine ih (xs.set off u) (off + 1) (fun y hy => ?_) (fun y hy => k y (by simp [hy])) x hx
    rcases List.mem_or_eq_of_mem_set hy with hy | hy
    · exact h y hy
    · subst hy; exact k y (by simp)

theorem fill_rel {N : Nat} {s : Sg} {e : Env} {h : AH} {w0 : World} {own : Nat → Prop} {a : Act} {w : World} (hs : ASim N s e h w0 own a w) (tot : Nat) (place : Nat → Option (Nat × Nat)) :
    ∀ (parts : List (Nat × Operand)) (ps : List (Nat × Nat × Arg)) (cs : List AV) (arr : Array Value), cParts tot place parts = some ps → partsOK e ps = true → VRels s cs arr.toList → cs.length = tot → (∀ v ∈ arr.toList, v.oneCell' = true) →
      ∃ arr', Instr.fill place arr (parts.map fun (i, x) => (i, a.eval x)) = some arr' ∧ VRels s (fillAV e ps cs) arr'.toList ∧ (∀ v ∈ arr'.toList, v.oneCell' = true) := by
  intro parts
  induction parts with
  | nil =>
    intro ps cs arr hp _ hr _ h1
    simp [cParts] at hp
    subst hp
    exact ⟨arr, rfl, hr, h1⟩
  | cons p parts ih =>
    intro ps cs arr hp hok hr hlen h1
    obtain ⟨i, x⟩ := p
    simp only [cParts] at hp
    obtain ⟨⟨off, size⟩, hpl, hp⟩ := bind_some hp
    simp only at hp
    split at hp
    · cases hp
    · rename_i htot
      obtain ⟨ax, hax, hp⟩ := bind_some hp
      obtain ⟨r, hrr, hp⟩ := bind_some hp
      cases hp
      simp only [partsOK, Bool.and_eq_true, beq_iff_eq] at hok
      obtain ⟨⟨hl, ho⟩, hok⟩ := hok
      have rx := cArg_rel hs hax
      obtain ⟨hc, hc1⟩ := rx.cells ho
      have hcs : (a.eval x).cells.size = size := by rw [← hl, ← hc.1]; simp
      have hlen' : arr.size = tot := by rw [← hlen, ← hr.1]; simp
      simp only [List.map_cons, Instr.fill, hpl, hcs, ne_eq, not_true_eq_false, decide_false, Bool.false_or]
      rw [if_neg (by simp; omega)]
      have hf : ((a.eval x).cells.zipIdx.foldl (fun cs (x : Value × Nat) => cs.setIfInBounds (off + x.2) x.1) arr).toList = spl arr.toList off (a.eval x).cells.toList := by
        rw [← Array.foldl_toList, Array.toList_zipIdx]
        exact foldl_set off _ 0 arr
      have := ih r (spl cs off (ax.ev e).cells) ((a.eval x).cells.zipIdx.foldl (fun cs (x : Value × Nat) => cs.setIfInBounds (off + x.2) x.1) arr) hrr hok (by rw [hf]; exact VRels.spl off hc hr) (by rw [spl_length]; exact hlen)
        (by rw [hf]; exact spl_one (fun v : Value => v.oneCell' = true) _ _ _ h1 hc1)
      obtain ⟨arr', b1, b2, b3⟩ := this
      exact ⟨arr', b1, b2, b3⟩

theorem zeroT_inv {P : Program} {t : TypeId} {z : List AV} (h : zeroT P t = some z) (s : Sg) : ∃ i zv, P.info? t = some i ∧ i.zero = some zv ∧ VRels s z zv.cells.toList ∧ (∀ v ∈ zv.cells.toList, v.oneCell' = true) ∧ z.length = i.size := by
  unfold zeroT at h
  obtain ⟨i, hi, h⟩ := bind_some h
  obtain ⟨zv, hz, h⟩ := bind_some h
  obtain ⟨cs, hc, h⟩ := bind_some h
  split at h
  · rename_i hl
    cases h
    obtain ⟨r1, r2, _⟩ := mapM_av1_rel s hc
    exact ⟨i, zv, hi, hz, r1, r2, hl⟩
  · cases h
end Go.Abs
