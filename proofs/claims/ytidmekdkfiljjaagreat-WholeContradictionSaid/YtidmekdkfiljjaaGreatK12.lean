/- Soundness of append onto a growing slice, and of calls that write. No condition. -/
import Derived.Test.YtidmekdkfiljjaaGreatK11
namespace Go.Abs
open Go

/-- A growing slice in a new block. -/
theorem HSim.newTok {s : Sg} {h : AH} {w0 : World} {own : Nat → Prop} {w w' : World} (k : HSim s h w0 own w) (l : Later w w') {arr : Array Value} {e : TypeId} (hg : w'.heap[w.heap.size]? = some (.cells arr e (0, 0)))
    (vs : List Value) (hv : ∀ (j : Nat) (v : Value), vs[j]? = some v → arr[j]? = some v) (h1 : ∀ v ∈ vs, v.oneCell' = true) {t len cap size : Nat} (hl : vs.length = len * size) (hlc : len ≤ cap) (ha : arr.size = cap * size)
    (ht : ∀ i, s.tok t = some i → i.len < len) :
    ∃ s', s.le s' ∧ HSim s' (h.setTok t len size) w0 own w' ∧ s'.tok t = some ⟨w.heap.size, len, cap, size⟩ ∧ ∀ (j : Nat) (v : Value), vs[j]? = some v → s'.fx w.heap.size j = some v := by
  obtain ⟨a1, a2, a3⟩ := k.alloc_fx l hg vs hv h1
  let s1 := s.fxNew w.heap.size vs
  let s' : Sg := { s1 with tok := fun x => if x = t then some ⟨w.heap.size, len, cap, size⟩ else s.tok x, nt := Max.max s.nt (t + 1) }
  have hle1 : s1.le s' := by
    refine ⟨fun _ _ _ e => e, fun _ _ e => e, fun x i ex => ?_, fun _ _ e => e⟩
    by_cases hx : x = t
    · subst hx
      have hi := ht i ex
      exact ⟨⟨w.heap.size, len, cap, size⟩, if_pos rfl, Nat.le_of_lt hi, fun heq => by simp at heq; omega⟩
    · exact ⟨i, (show s'.tok x = s.tok x from if_neg hx).trans ex, Nat.le_refl _, fun _ => rfl⟩
  obtain ⟨f1, f2, f3⟩ := k.new_free (Nat.le_refl w.heap.size)
  have tokne : ∀ x i, x ≠ t → s'.tok x = some i → s.tok x = some i := fun x i hx ex => by
    have : s'.tok x = s.tok x := if_neg hx
    rw [this] at ex; exact ex
  refine ⟨s', a1.trans hle1, ?_, if_pos rfl, a3⟩
  exact {
    fx := a2.fx
    blk := fun b cs eb => by
      obtain ⟨c, ws, ty, b1, b2, b3, b4, b5, b6⟩ := a2.blk b cs eb
      exact ⟨c, ws, ty, b1, b2, b3, fun j x hx => by obtain ⟨v, c1, c2, c3⟩ := b4 j x hx; exact ⟨v, c1, c2, c3.mono hle1⟩, b5, b6⟩
    inj := a2.inj
    tok := fun x p ex => by
      simp only [AH.setTok] at ex
      by_cases hx : x = t
      · subst hx
        rw [if_pos rfl] at ex
        cases ex
        refine ⟨⟨w.heap.size, len, cap, size⟩, if_pos rfl, rfl, rfl, ?_⟩
        rcases Nat.eq_or_lt_of_le hlc with hc | hc
        · exact .inl hc.symm
        · refine .inr ⟨hc, arr, e, hg, ha, fun o ho => ?_, .inl k.size⟩
          show (if w.heap.size = w.heap.size then vs[o]? else _) = none
          rw [if_pos rfl, List.getElem?_eq_none (by rw [hl]; exact ho)]
      · rw [if_neg hx] at ex
        obtain ⟨i, b1, b2, b2', b3⟩ := a2.tok x p ex
        exact ⟨i, (show s'.tok x = s.tok x from if_neg hx).trans b1, b2, b2', b3⟩
    tokinj := fun x y n n' i i' e1 e2 e3 e4 e5 e6 e7 => by
      simp only [AH.setTok] at e1 e2
      by_cases hx : x = t
      · by_cases hy : y = t
        · rw [hx, hy]
        · rw [if_neg hy] at e2
          subst hx
          have : s'.tok x = some ⟨w.heap.size, len, cap, size⟩ := if_pos rfl
          rw [this] at e3; cases e3
          exact absurd e7.symm (f3 y n' i' e2 (tokne y i' hy e4) e6)
      · rw [if_neg hx] at e1
        by_cases hy : y = t
        · subst hy
          have : s'.tok y = some ⟨w.heap.size, len, cap, size⟩ := if_pos rfl
          rw [this] at e4; cases e4
          exact absurd e7 (f3 x n i e1 (tokne x i hx e3) e5)
        · rw [if_neg hy] at e2
          exact k.tokinj x y n n' i i' e1 e2 (tokne x i hx e3) (tokne y i' hy e4) e5 e6 e7
    tokblk := fun x n i b e1 e2 e3 e4 e5 => by
      simp only [AH.setTok] at e1
      by_cases hx : x = t
      · subst hx
        have : s'.tok x = some ⟨w.heap.size, len, cap, size⟩ := if_pos rfl
        rw [this] at e2; cases e2
        exact f2 b e4 e5
      · rw [if_neg hx] at e1
        exact k.tokblk x n i b e1 (tokne x i hx e2) e3 e4 e5
    nb := a2.nb
    nt := fun x hx => by
      have h1 : s.nt ≤ x := Nat.le_trans (Nat.le_max_left _ _) hx
      have h2 : t + 1 ≤ x := Nat.le_trans (Nat.le_max_right _ _) hx
      have : s'.tok x = s.tok x := if_neg (by omega)
      rw [this]; exact k.nt x h1
    mp := fun b es eb => by
      obtain ⟨c, mes, ck, c1, c2, c3, c4⟩ := a2.mp b es eb
      exact ⟨c, mes, ck, c1, c2, c3.mono hle1, c4⟩
    minj := a2.minj
    nm := a2.nm
    frame := a2.frame
    size := a2.size
    os := a2.os
    tape := a2.tape
    output := a2.output }

/-- A growing slice grows in its block. -/
theorem HSim.growTok {s : Sg} {h : AH} {w0 : World} {own : Nat → Prop} {w : World} (k : HSim s h w0 own w) {t n m size : Nat} {i : Tk} (ht : h.tok t = some (n, size)) (hi : s.tok t = some i) (hlt : n < i.cap) (hm : 0 < m) (hroom : n + m ≤ i.cap)
    {cur : Array Value} {e : TypeId} (hg : w.heap[i.blk]? = some (.cells cur e (0, 0))) (hcs : cur.size = i.cap * size) (news : List Value) (hl : news.length = m * size) (h1 : ∀ v ∈ news, v.oneCell' = true) :
    ∃ s', s.le s' ∧ HSim s' (h.setTok t (n + m) size) w0 own (w.setRow i.blk (cur.toList.take (n * size) ++ news ++ cur.toList.drop (n * size + news.length)).toArray) ∧ s'.tok t = some { i with len := n + m } ∧
      ∀ (j : Nat) (v : Value), news[j]? = some v → s'.fx i.blk (n * size + j) = some v := by
  obtain ⟨i', a1, a2, a2', a3⟩ := k.tok t (n, size) ht
  rw [hi] at a1; cases a1
  simp only at a2 a2' a3
  rcases a3 with a3 | ⟨_, ws, ty, b2, b3, b4, b5⟩
  · omega
  rw [hg] at b2; cases b2
  have hsz : i.size = size := a2'
  have hfit : n * size + news.length ≤ cur.size := by rw [hl, hcs, ← Nat.add_mul]; exact Nat.mul_le_mul_right _ hroom
  let s' : Sg := { s with fx := fun b o => if b = i.blk ∧ n * size ≤ o then news[o - n * size]? else s.fx b o, tok := fun x => if x = t then some { i with len := n + m } else s.tok x }
  have hnone : ∀ o, n * size ≤ o → s.fx i.blk o = none := fun o ho => b4 o (by rw [hsz]; exact ho)
  have hle : s.le s' := by
    refine ⟨fun b o v ev => ?_, fun _ _ e => e, fun x j ex => ?_, fun _ _ e => e⟩
    · show (if _ then _ else _) = _
      rw [if_neg (fun ⟨h1, h2⟩ => by subst h1; rw [hnone o h2] at ev; cases ev)]
      exact ev
    · by_cases hx : x = t
      · subst hx
        rw [hi] at ex; cases ex
        exact ⟨{ i with len := n + m }, if_pos rfl, by simp [a2], fun heq => by simp [a2] at heq; omega⟩
      · exact ⟨j, (show s'.tok x = s.tok x from if_neg hx).trans ex, Nat.le_refl _, fun _ => rfl⟩
  have hother : ∀ us : Array Value, ∀ j, j ≠ i.blk → (w.setRow i.blk us).heap[j]? = w.heap[j]? := fun us j hj => setRow_other w i.blk j us hj
  have tokne : ∀ x j, x ≠ t → s'.tok x = some j → s.tok x = some j := fun x j hx ex => by
    have : s'.tok x = s.tok x := if_neg hx
    rw [this] at ex; exact ex
  have hrow := setRow_heap w i.blk cur (cur.toList.take (n * size) ++ news ++ cur.toList.drop (n * size + news.length)).toArray e (0, 0) hg
  have hsize : (cur.toList.take (n * size) ++ news ++ cur.toList.drop (n * size + news.length)).length = cur.size := by simp; omega
  have fxne : ∀ c, (∀ o, s.fx c o = none) → c ≠ i.blk → ∀ o, s'.fx c o = none := fun c hc hne o => by
    show (if _ then _ else _) = _
    rw [if_neg (fun h => hne h.1)]; exact hc o
  refine ⟨s', hle, ?_, if_pos rfl, fun j v hj => by
    show (if _ then _ else _) = _
    rw [if_pos ⟨rfl, by omega⟩, show n * size + j - n * size = j by omega]; exact hj⟩
  exact {
    fx := fun b o v ev => by
      have ev' : (if b = i.blk ∧ n * size ≤ o then news[o - n * size]? else s.fx b o) = some v := ev
      split at ev'
      · rename_i hbo
        obtain ⟨rfl, ho⟩ := hbo
        refine ⟨?_, h1 v (List.mem_of_getElem? ev')⟩
        simp only [World.cell?, hrow]
        have hj : o - n * size < news.length := (List.getElem?_eq_some_iff.1 ev').1
        simp only [List.getElem?_toArray]
        rw [List.append_assoc, List.getElem?_append_right (by simp; omega)]
        rw [List.getElem?_append_left (by simp; omega)]
        have e1 : o - (List.take (n * size) cur.toList).length = o - n * size := by simp; omega
        rw [e1]; simpa using ev'
      · rename_i hbo
        obtain ⟨c1, c2⟩ := k.fx b o v ev'
        refine ⟨?_, c2⟩
        by_cases hb : b = i.blk
        · subst hb
          have ho : o < n * size := by
            rcases Nat.lt_or_ge o (n * size) with h | h
            · exact h
            · exact absurd ⟨rfl, h⟩ hbo
          simp only [World.cell?, hg] at c1
          simp only [World.cell?, hrow]
          have c1' : cur[o]? = some v := by simpa using c1
          have : o < cur.size := (Array.getElem?_eq_some_iff.1 c1').1
          simp only [List.getElem?_toArray]
          rw [List.append_assoc, List.getElem?_append_left (by simp; omega), List.getElem?_take, if_pos ho]
          simpa using c1'
        · rw [← c1]
          exact World.cell?_of_block (w := w) (a := ⟨b, o, none⟩) (hother _ b hb)
    blk := fun b cs eb => by
      obtain ⟨c, vs, ty, d1, d2, d3, d4, d5, d6⟩ := k.blk b cs eb
      have hne : c ≠ i.blk := fun hc => k.tokblk t (n, size) i b ht hi hlt (by have eb' : h.blk b = some cs := eb; rw [eb']; simp) (by rw [d1, hc])
      exact ⟨c, vs, ty, d1, by rw [hother _ c hne]; exact d2, d3, fun j x hx => by obtain ⟨v, e1, e2, e3⟩ := d4 j x hx; exact ⟨v, e1, e2, e3.mono hle⟩, fxne c d5 hne, d6⟩
    inj := k.inj
    tok := fun x p ex => by
      simp only [AH.setTok] at ex
      by_cases hx : x = t
      · subst hx
        rw [if_pos rfl] at ex
        cases ex
        refine ⟨{ i with len := n + m }, if_pos rfl, rfl, hsz, ?_⟩
        rcases Nat.eq_or_lt_of_le hroom with hc | hc
        · exact .inl hc.symm
        · refine .inr ⟨hc, _, e, hrow, ?_, fun o ho => ?_, b5⟩
          · simp only [List.size_toArray]; rw [hsize, hcs, hsz]
          · have ho' : (n + m) * size ≤ o := by rw [← hsz]; exact ho
            rw [Nat.add_mul] at ho'
            show (if _ then _ else _) = _
            rw [if_pos ⟨rfl, by omega⟩, List.getElem?_eq_none (by omega)]
      · rw [if_neg hx] at ex
        obtain ⟨j, d1, d2, d2', d3⟩ := k.tok x p ex
        refine ⟨j, (show s'.tok x = s.tok x from if_neg hx).trans d1, d2, d2', ?_⟩
        rcases d3 with d3 | ⟨e1, vs, ty, e2, e3, e4, e5⟩
        · exact .inl d3
        · have hne : j.blk ≠ i.blk := fun hji => hx (k.tokinj x t p (n, size) j i ex ht d1 hi e1 hlt hji)
          refine .inr ⟨e1, vs, ty, by rw [hother _ _ hne]; exact e2, e3, fun o ho => ?_, e5⟩
          show (if _ then _ else _) = _
          rw [if_neg (fun h => hne h.1)]; exact e4 o ho
    tokinj := fun x y p q j j' e1 e2 e3 e4 e5 e6 e7 => by
      have old : ∀ z r jj, (h.setTok t (n + m) size).tok z = some r → s'.tok z = some jj → r.1 < jj.cap → ∃ r' j0, h.tok z = some r' ∧ s.tok z = some j0 ∧ r'.1 < j0.cap ∧ j0.blk = jj.blk := by
        intro z r jj f1 f2 f3
        simp only [AH.setTok] at f1
        by_cases hz : z = t
        · subst hz
          have : s'.tok z = some { i with len := n + m } := if_pos rfl
          rw [this] at f2; cases f2
          exact ⟨(n, size), i, ht, hi, hlt, rfl⟩
        · rw [if_neg hz] at f1
          exact ⟨r, jj, f1, tokne z jj hz f2, f3, rfl⟩
      obtain ⟨p', j0, g1, g2, g3, g4⟩ := old x p j e1 e3 e5
      obtain ⟨q', j0', g1', g2', g3', g4'⟩ := old y q j' e2 e4 e6
      exact k.tokinj x y p' q' j0 j0' g1 g1' g2 g2' g3 g3' (by rw [g4, g4', e7])
    tokblk := fun x p j b e1 e2 e3 e4 e5 => by
      simp only [AH.setTok] at e1
      by_cases hx : x = t
      · subst hx
        have : s'.tok x = some { i with len := n + m } := if_pos rfl
        rw [this] at e2; cases e2
        exact k.tokblk x (n, size) i b ht hi hlt e4 e5
      · rw [if_neg hx] at e1
        exact k.tokblk x p j b e1 (tokne x j hx e2) e3 e4 e5
    nb := k.nb
    nt := fun x hx => by
      have hxt : x ≠ t := fun hxt => by subst hxt; have := k.nt x hx; rw [hi] at this; cases this
      have : s'.tok x = s.tok x := if_neg hxt
      rw [this]; exact k.nt x hx
    mp := fun b es eb => by
      obtain ⟨c, mes, ck, c1, c2, c3, c4⟩ := k.mp b es eb
      refine ⟨c, mes, ck, c1, ?_, c3.mono hle, c4⟩
      rw [hother _ c (fun hdc => by rw [hdc, hg] at c2; cases c2)]
      exact c2
    minj := k.minj
    nm := k.nm
    frame := fun j hj ho => by
      rw [hother _ j (fun hjc => by subst hjc; rcases b5 with h1 | h1; omega; exact ho h1)]
      exact k.frame j hj ho
    size := by
      have : ∀ us, (w.setRow i.blk us).heap.size = w.heap.size := by intro us; simp [World.setRow]
      rw [this]; exact k.size
    os := k.os
    tape := k.tape
    output := k.output }

/-- append in place. -/
theorem run_append_in {P : Program} (w : World) (t ty e e0 : TypeId) (i : TypeInfo) (ht : P.underlying t = some (.slice e)) (hi : P.info? e = some i)
    (g sLen sCap : Nat) (cur : Array Value) (hg : w.heap[g]? = some (.cells cur e0 (0, 0)))
    (a : Addr) (m c : Nat) (news : List Value) (hl : news.length = m * i.size) (hnews : ∀ (j : Nat) (u : Value), news[j]? = some u → w.cell? (a.add j) = some u) (h1 : ∀ u ∈ news, u.oneCell' = true)
    (hroom : sLen + m ≤ sCap) (hfit : sLen * i.size + news.length ≤ cur.size) :
    (Builtin.append_ #[t, t] ty #[.slice (some ⟨g, 0, none⟩) sLen sCap, .slice (some a) m c]).run P w =
      .ok (.slice (some ⟨g, 0, none⟩) (sLen + m) sCap) (w.setRow g (cur.toList.take (sLen * i.size) ++ news ++ cur.toList.drop (sLen * i.size + news.length)).toArray) := by
  have hf := run_firstCells_some (P := P) w i.size m a m c news hl hnews
  have hst := run_storeCells_at P g (sLen * i.size) e0 news 0 cur w hg (by simpa using hfit) h1
  simp only [Nat.add_zero] at hst
  simp [Builtin.append_, run_underlying ht, sizeOf, typeInfo, hi, Builtin.lenOf, hroom, hf, Addr.add_lit, hst]

/-- A new growing slice that cannot grow in place. -/
theorem HSim.fullTok {s : Sg} {h : AH} {w0 : World} {own : Nat → Prop} {w : World} (k : HSim s h w0 own w) (n size : Nat) :
    ∃ s', s.le s' ∧ HSim s' (h.setTok s.nt n size) w0 own w ∧ s'.tok s.nt = some ⟨0, n, n, size⟩ ∧ h.tok s.nt = none := by
  have hnt : s.tok s.nt = none := k.nt s.nt (Nat.le_refl _)
  have hhn : h.tok s.nt = none := by
    cases hb : h.tok s.nt with
    | none => rfl
    | some p => obtain ⟨i, a1, _⟩ := k.tok s.nt p hb; rw [hnt] at a1; cases a1
  let s' : Sg := { s with tok := fun x => if x = s.nt then some ⟨0, n, n, size⟩ else s.tok x, nt := s.nt + 1 }
  have hle : s.le s' := ⟨fun _ _ _ e => e, fun _ _ e => e, fun t i e => ⟨i, by
    have : s'.tok t = s.tok t := if_neg (fun ht => by subst ht; rw [hnt] at e; cases e)
    rw [this]; exact e, Nat.le_refl _, fun _ => rfl⟩, fun _ _ e => e⟩
  have tokne : ∀ x j, x ≠ s.nt → s'.tok x = some j → s.tok x = some j := fun x j hx ex => by
    have : s'.tok x = s.tok x := if_neg hx
    rw [this] at ex; exact ex
  refine ⟨s', hle, ?_, if_pos rfl, hhn⟩
  exact {
    fx := k.fx
    blk := fun b cs eb => by
      obtain ⟨c, vs, ty, d1, d2, d3, d4, d5, d6⟩ := k.blk b cs eb
      exact ⟨c, vs, ty, d1, d2, d3, fun j x hx => by obtain ⟨v, e1, e2, e3⟩ := d4 j x hx; exact ⟨v, e1, e2, e3.mono hle⟩, d5, d6⟩
    inj := k.inj
    tok := fun x p ex => by
      simp only [AH.setTok] at ex
      by_cases hx : x = s.nt
      · subst hx
        rw [if_pos rfl] at ex
        cases ex
        exact ⟨⟨0, n, n, size⟩, if_pos rfl, rfl, rfl, .inl rfl⟩
      · rw [if_neg hx] at ex
        obtain ⟨j, d1, d2⟩ := k.tok x p ex
        exact ⟨j, (show s'.tok x = s.tok x from if_neg hx).trans d1, d2⟩
    tokinj := fun x y p q j j' e1 e2 e3 e4 e5 e6 e7 => by
      simp only [AH.setTok] at e1 e2
      have hx : x ≠ s.nt := fun hx => by
        subst hx
        rw [if_pos rfl] at e1; cases e1
        have : s'.tok s.nt = some ⟨0, n, n, size⟩ := if_pos rfl
        rw [this] at e3; cases e3
        exact absurd e5 (by simp)
      have hy : y ≠ s.nt := fun hy => by
        subst hy
        rw [if_pos rfl] at e2; cases e2
        have : s'.tok s.nt = some ⟨0, n, n, size⟩ := if_pos rfl
        rw [this] at e4; cases e4
        exact absurd e6 (by simp)
      rw [if_neg hx] at e1
      rw [if_neg hy] at e2
      exact k.tokinj x y p q j j' e1 e2 (tokne x j hx e3) (tokne y j' hy e4) e5 e6 e7
    tokblk := fun x p j b e1 e2 e3 e4 e5 => by
      simp only [AH.setTok] at e1
      have hx : x ≠ s.nt := fun hx => by
        subst hx
        rw [if_pos rfl] at e1; cases e1
        have : s'.tok s.nt = some ⟨0, n, n, size⟩ := if_pos rfl
        rw [this] at e2; cases e2
        exact absurd e3 (by simp)
      rw [if_neg hx] at e1
      exact k.tokblk x p j b e1 (tokne x j hx e2) e3 e4 e5
    nb := k.nb
    nt := fun x hx => by
      have hx' : s.nt + 1 ≤ x := hx
      have : s'.tok x = s.tok x := if_neg (by omega)
      rw [this]; exact k.nt x (by omega)
    mp := fun b es eb => by
      obtain ⟨c, mes, ck, c1, c2, c3, c4⟩ := k.mp b es eb
      exact ⟨c, mes, ck, c1, c2, c3.mono hle, c4⟩
    minj := k.minj
    nm := k.nm
    frame := k.frame
    size := k.size
    os := k.os
    tape := k.tape
    output := k.output }

theorem sS_append {P : Program} {o : Oper} {t e' : TypeId} {i : TypeInfo} {x y : Operand} {ax ay : Arg} {c : Call} {z : List AV} (ho : o.op = .call c) (hc : c.callee = .builtin .append) (ha : c.args = #[x, y]) (hty : c.argTypes = #[t, t])
    (hu : P.underlying t = some (.slice e')) (hi : P.info? e' = some i) (hz : zeroT P e' = some z) (hx : cArg x = some ax) (hy : cArg y = some ay) : SSound P o (.append i.size i.bytes ax ay) := by
  intro N s e h w0 own a w hs K hk next Q hn
  have rx := cArg_rel hs hx
  have ry := cArg_rel hs hy
  obtain ⟨i', zv, hi', hzv, hzr, _, hzl⟩ := zeroT_inv hz s
  rw [hi] at hi'; cases hi'
  have hzs : zv.cells.size = i.size := by rw [← hzl, ← hzr.1]; simp
  have hexec : ∀ (A B : Option Addr) (n cap m c' : Nat), a.eval x = .slice A n cap → a.eval y = .slice B m c' → (execOp a.eval o).run P w = ((Builtin.append_ #[t, t] o.type #[.slice A n cap, .slice B m c']).run P w).andThen fun v w' => .ok (.value v) w' := by
    intro A B n cap m c' ev ev2
    simp [execOp, ho, resolve, hc, ha, hty, invoke, builtin, ev, ev2]
  -- the new slice, in a new block
  have grow : ∀ (nl : Bool) (n cap m c' tt : Nat) (cs ys : List AV) (A : Option Addr) (B : Addr) (vs news : List Value), a.eval x = .slice A n cap → a.eval y = .slice (some B) m c' → VRels s cs vs → VRels s ys news → cs.length = n * i.size → news.length = m * i.size →
      (∀ (j : Nat) (u : Value), vs[j]? = some u → ∃ ad : Addr, A = some ad ∧ ad.spot = none ∧ s.fx ad.block (ad.off + j) = some u) → (A = none → n = 0 ∧ cap = 0) → (∀ (j : Nat) (u : Value), news[j]? = some u → w.cell? (B.add j) = some u) → (∀ u ∈ news, u.oneCell' = true) →
      cap < n + m → 0 < m → (n + m) * i.bytes ≤ 140737488355328 → n + m ≤ 140737488355328 → (∀ j, s.tok tt = some j → j.len < n + m) →
      K (.sl (nl && decide (n + m = 0)) (n + m) (cs ++ ys) (.tok tt)) (h.setTok tt (n + m) i.size) → o.wp P a w next Q := by
    intro nl n cap m c' tt cs ys A B vs news ev ev2 hr hr2 hlen hl2 hfx hnone hc2 h12 hgc hm hbnd h47 htt hk
    have hvl : vs.length = n * i.size := by rw [hr.1]; exact hlen
    obtain ⟨cap', arr, hrun, hge, hle, harr⟩ := run_append_new (P := P) w t o.type e' i zv hu hi hzv A n cap vs hvl
      (fun j v hv => by obtain ⟨ad, e1, e2, e3⟩ := hfx j v hv; exact ⟨ad, e1, by rw [add_eq e2]; exact (hs.heap.fx _ _ _ e3).1⟩) hnone B m c' news hl2 hc2 hgc (by omega) hbnd
    have hone : ∀ v ∈ vs ++ news, v.oneCell' = true := by
      intro v hv
      rcases List.mem_append.1 hv with hv | hv
      · obtain ⟨j, hj, rfl⟩ := List.getElem_of_mem hv
        obtain ⟨ad, e1, e2, e3⟩ := hfx j _ (List.getElem?_eq_getElem hj)
        exact (hs.heap.fx _ _ _ e3).2
      · exact h12 v hv
    have hg : (w.drew.alloc (.cells arr e')).heap[w.heap.size]? = some (.cells arr e' (0, 0)) := push_new w.drew _
    obtain ⟨s', b1, b2, b3, b4⟩ := hs.heap.newTok (Later.drew_alloc w (.cells arr e')) hg (vs ++ news) (by
      intro j v hj
      rw [harr]
      have hjl : j < (vs ++ news).length := (List.getElem?_eq_some_iff.1 hj).1
      rw [Array.getElem?_append_left (by simpa using hjl)]
      simpa using hj) hone (t := tt) (len := n + m) (cap := cap') (size := i.size) (by rw [List.length_append, hvl, hl2, Nat.add_mul]) hge (by
        rw [harr]
        simp only [Array.size_append, List.size_toArray, size_zeroCells, hzs, hvl, hl2, ← Nat.add_mul]
        congr 1; omega) htt
    unfold Oper.wp
    rw [hexec A (some B) n cap m c' ev ev2, hrun]
    have hrel := (hr.append hr2).mono b1
    refine hn _ _ _ _ _ b1 b2 (.sl (nl && decide (n + m = 0)) (n + m) (cs ++ ys) (.tok tt) (some ⟨w.heap.size, 0, none⟩) cap' (vs ++ news) hrel.1 hrel.2 (fun j v hv => ⟨_, rfl, rfl, by simpa using b4 j v hv⟩) ?_ (by simp) (by simp) hge hle
      ⟨_, b3, Nat.le_refl _, fun _ => ⟨rfl, fun _ => rfl⟩⟩) hk
    have : ¬ (n + m = 0) := by omega
    simp only [this, decide_false, Bool.and_false, Option.isNone_some]
  simp only [evS] at hk
  split at hk
  · rename_i nl n cs hb
    rw [hb] at rx
    obtain ⟨A, cap, vs, ev, hr, hfx, hnil, hnone, hspot, hcap, hmax, htl⟩ := rx.sl_inv
    have hcn : cap = n := htl
    obtain ⟨hlen, hk⟩ := hk
    obtain ⟨B, m, c', ys, news, ev2, hr2, hl2, hc2, h12, hB, hbnd, h47, hk⟩ := rdSl_inv hs.heap ry hk
    by_cases hm : m = 0
    · subst hm
      have hys : ys = [] := List.eq_nil_of_length_eq_zero (by rw [← hr2.1, hl2]; simp)
      subst hys
      obtain ⟨s', b1, b2, b3, b4⟩ := hs.heap.fullTok n i.size
      unfold Oper.wp
      rw [hexec A B n cap 0 c' ev ev2, run_append_zero w t o.type e' i hu hi A B n cap c' (by omega)]
      have hk' := hk s.nt b4
      refine hn s' _ _ _ w b1 b2 (.sl (nl && decide (n + 0 = 0)) (n + 0) (cs ++ []) (.tok s.nt) A cap vs (by rw [List.append_nil]; exact hr.1) (by rw [List.append_nil]; exact fun j x v hx hv => (hr.2 j x v hx hv).mono b1) (fun j v hv => by obtain ⟨ad, e1, e2, e3⟩ := hfx j v hv; exact ⟨ad, e1, e2, b1.fx _ _ _ e3⟩) ?_ hnone hspot (by omega) hmax
        ⟨_, b3, by simp, fun _ => ⟨hcn, fun h => by simp at h⟩⟩) hk'
      rw [hnil]
      cases A with
      | none => have := (hnone rfl).1; simp [this]
      | some _ => simp
    · cases B with
      | none => exact absurd (hB rfl) hm
      | some B =>
        have hnt : s.tok s.nt = none := hs.heap.nt s.nt (Nat.le_refl _)
        have hhn : h.tok s.nt = none := by
          cases hb : h.tok s.nt with
          | none => rfl
          | some p => obtain ⟨j, a1, _⟩ := hs.heap.tok s.nt p hb; rw [hnt] at a1; cases a1
        exact grow nl n cap m c' s.nt cs ys A B vs news ev ev2 hr hr2 hlen hl2 hfx hnone (fun j u hu' => by obtain ⟨b, e1, e2⟩ := hc2 j u hu'; cases e1; exact e2) h12 (by omega) (by omega) hbnd h47 (fun j hj => by rw [hnt] at hj; cases hj) (hk s.nt hhn)
  · rename_i nl n cs tt hb
    rw [hb] at rx
    obtain ⟨A, cap, vs, ev, hr, hfx, hnil, hnone, hspot, hcap, hmax, htl⟩ := rx.sl_inv
    obtain ⟨hlen, htok, hk⟩ := hk
    obtain ⟨B, m, c', ys, news, ev2, hr2, hl2, hc2, h12, hB, hbnd, h47, hk⟩ := rdSl_inv hs.heap ry hk
    obtain ⟨ti, g1, g2, g2', g3⟩ := hs.heap.tok tt (n, i.size) htok
    obtain ⟨ti', f1, f2, f3⟩ := htl
    rw [g1] at f1; cases f1
    obtain ⟨f4, f5⟩ := f3 g2
    by_cases hm : m = 0
    · subst hm
      have hys : ys = [] := List.eq_nil_of_length_eq_zero (by rw [← hr2.1, hl2]; simp)
      subst hys
      unfold Oper.wp
      rw [hexec A B n cap 0 c' ev ev2, run_append_zero w t o.type e' i hu hi A B n cap c' (by omega)]
      refine hn s _ _ (h.setTok tt (n + 0) i.size) w (Sg.le.refl s) (hs.heap.weaken ⟨fun _ _ e => e, fun x p ex => ?_, fun _ _ e => e⟩) (.sl (nl && decide (n + 0 = 0)) (n + 0) (cs ++ []) (.tok tt) A cap vs (by rw [List.append_nil]; exact hr.1) (by rw [List.append_nil]; exact hr.2) hfx ?_ hnone hspot (by omega) hmax
        ⟨ti, g1, by simp only [Nat.add_zero]; omega, fun _ => ⟨f4, f5⟩⟩) hk
      · simp only [AH.setTok] at ex
        split at ex
        · rename_i hxt; subst hxt; cases ex; exact htok
        · exact ex
      · rw [hnil]
        cases A with
        | none => have := (hnone rfl).1; simp [this]
        | some _ => simp
    · cases B with
      | none => exact absurd (hB rfl) hm
      | some B =>
        have hc2' : ∀ (j : Nat) (u : Value), news[j]? = some u → w.cell? (B.add j) = some u := fun j u hu' => by obtain ⟨b, e1, e2⟩ := hc2 j u hu'; cases e1; exact e2
        by_cases hroom : n + m ≤ cap
        · have hlt : n < ti.cap := by rw [← f4]; omega
          rcases g3 with g3 | ⟨_, cur, ty, q2, q3, q4, q5⟩
          · simp only at g3; omega
          have hA := f5 hlt
          have hsz : ti.size = i.size := g2'
          rw [hsz] at q3
          obtain ⟨s', b1, b2, b3, b4⟩ := hs.heap.growTok htok g1 hlt (show 0 < m by omega) (by rw [← f4]; exact hroom) q2 q3 news hl2 h12
          have hrun := run_append_in (P := P) w t o.type e' ty i hu hi ti.blk n cap cur q2 B m c' news hl2 hc2' h12 hroom (by rw [hl2, q3, ← Nat.add_mul, ← f4]; exact Nat.mul_le_mul_right _ hroom)
          unfold Oper.wp
          rw [hexec A (some B) n cap m c' ev ev2, hA, hrun]
          have hrel := (hr.append hr2).mono b1
          have hvl : vs.length = n * i.size := by rw [hr.1]; exact hlen
          refine hn s' _ _ _ _ b1 b2 (.sl (nl && decide (n + m = 0)) (n + m) (cs ++ ys) (.tok tt) (some ⟨ti.blk, 0, none⟩) cap (vs ++ news) hrel.1 hrel.2 (fun j v hv => ⟨_, rfl, rfl, ?_⟩) ?_ (by simp) (by simp) hroom hmax
            ⟨_, b3, Nat.le_refl _, fun _ => ⟨f4, fun _ => rfl⟩⟩) hk
          · simp only [Nat.zero_add]
            rw [List.getElem?_append] at hv
            split at hv
            · obtain ⟨ad, e1, e2, e3⟩ := hfx j v hv
              rw [hA] at e1; cases e1
              simpa using b1.fx _ _ _ e3
            · have := b4 _ v hv
              rwa [show n * i.size + (j - vs.length) = j by omega] at this
          · have : ¬ (n + m = 0) := by omega
            simp only [this, decide_false, Bool.and_false, Option.isNone_some]
        · exact grow nl n cap m c' tt cs ys A B vs news ev ev2 hr hr2 hlen hl2 hfx hnone hc2' h12 (by omega) (by omega) hbnd h47 (fun j hj => by rw [g1] at hj; cases hj; simp only at g2; omega) hk
  · exact hk.elim

theorem sS_call {P : Program} {o : Oper} {f : FuncId} {c : Call} {as : List Arg} (ho : o.op = .call c) (hc : c.callee = .value (.func f)) (ha : c.args.toList.mapM cArg = some as) : SSound P o (.call f as) := by
  intro N s e h w0 own a w hs K hk next Q hn
  have r := cArgs_rel hs ha
  refine wp_call hs hk r ?_ next Q (fun s' x u h' w' h1 h2 h3 h4 => hn s' x u h' w' h1 h2 h3 h4)
  have e1 : Array.map a.eval c.args = (c.args.toList.map a.eval).toArray := by apply Array.ext'; simp
  simp [execOp, ho, resolve, hc, Act.eval, Deferred.ofValue, invoke]
  rw [e1]

theorem sS_callv {P : Program} {o : Oper} {t : Nat} {c : Call} {as : List Arg} (ho : o.op = .call c) (hc : c.callee = .value (.tmp t)) (ha : c.args.toList.mapM cArg = some as) : SSound P o (.callv (.t t) as) := by
  intro N s e h w0 own a w hs K hk next Q hn
  have r := cArgs_rel hs ha
  have rf := hs.rel t
  simp only [evS, Arg.ev] at hk
  split at hk
  · rename_i f caps hb
    rw [hb] at rf
    obtain ⟨vs, ev, hr⟩ := rf.fn_inv
    refine wp_call hs hk (r.append hr) ?_ next Q (fun s' x u h' w' h1 h2 h3 h4 => hn s' x u h' w' h1 h2 h3 h4)
    have hev : a.eval (.tmp t) = .func (.func f) #[] vs.toArray := ev
    simp [execOp, ho, resolve, hc, hev, Deferred.ofValue, invoke]
    congr 2
    apply Array.ext'; simp
  · exact hk.elim
end Go.Abs
