/- Abstract values and their relation to the model's values: the definitions, and that they last. No condition. -/
import Derived.WalkKit
namespace Go.Abs

inductive Tail where
  | full
  | unk
  | tok (t : Nat)

inductive AV where
  | undef
  | int (k : IntKind) (n : Int)
  | bool (b : Bool)
  | str (s : ByteArray)
  | sl (nl : Bool) (n : Nat) (cells : List AV) (tl : Tail)
  | st (cells : List AV)
  | ptr (b off : Nat)
  | sptr (cells : List AV)
  | nilp
  | msl (b off n : Nat) (cap : Option Nat)
  | fn (f : FuncId) (caps : List AV)
  | nilfn
  | tup (vs : List AV)
  | map (b : Nat)
  | nilmap

instance : Inhabited AV := ⟨.undef⟩

def InR (k : IntKind) (n : Int) : Prop := k.min ≤ n ∧ n ≤ k.max

/-- Where a growing slice lies: the block, its length and capacity, the cells of an element. -/
structure Tk where
  blk : Nat
  len : Nat
  cap : Nat
  size : Nat

structure Sg where
  fx : Nat → Nat → Option Value
  blk : Nat → Option Nat
  tok : Nat → Option Tk
  nb : Nat
  nt : Nat
  mb : Nat → Option Nat
  nm : Nat

structure Sg.le (s s' : Sg) : Prop where
  fx : ∀ b o v, s.fx b o = some v → s'.fx b o = some v
  blk : ∀ b c, s.blk b = some c → s'.blk b = some c
  tok : ∀ t i, s.tok t = some i → ∃ i', s'.tok t = some i' ∧ i.len ≤ i'.len ∧ (i'.len = i.len → i' = i)
  mb : ∀ b c, s.mb b = some c → s'.mb b = some c

theorem Sg.le.refl (s : Sg) : s.le s := ⟨fun _ _ _ h => h, fun _ _ h => h, fun _ i h => ⟨i, h, Nat.le_refl _, fun _ => rfl⟩, fun _ _ h => h⟩

theorem Sg.le.trans {a b c : Sg} (h : a.le b) (k : b.le c) : a.le c := by
  refine ⟨fun x o v e => k.fx _ _ _ (h.fx _ _ _ e), fun x o e => k.blk _ _ (h.blk _ _ e), fun t i e => ?_, fun x o e => k.mb _ _ (h.mb _ _ e)⟩
  obtain ⟨i1, e1, l1, s1⟩ := h.tok t i e
  obtain ⟨i2, e2, l2, s2⟩ := k.tok t i1 e1
  refine ⟨i2, e2, by omega, fun hh => ?_⟩
  have e12 : i1.len = i.len := by omega
  rw [s2 (by omega), s1 e12]

def TailOK (s : Sg) (tl : Tail) (a : Option Addr) (n cap : Nat) : Prop :=
  match tl with
  | .full => cap = n
  | .unk => True
  | .tok t => ∃ i, s.tok t = some i ∧ n ≤ i.len ∧ (i.len = n → cap = i.cap ∧ (n < i.cap → a = some ⟨i.blk, 0, none⟩))

inductive VRel (s : Sg) : AV → Value → Prop where
  | undef (v : Value) : VRel s .undef v
  | int (k : IntKind) (n : Int) (h : InR k n) : VRel s (.int k n) (.int k n)
  | bool (b : Bool) : VRel s (.bool b) (.bool b)
  | str (b : ByteArray) : VRel s (.str b) (.string b)
  | sl (nl : Bool) (n : Nat) (cells : List AV) (tl : Tail) (a : Option Addr) (cap : Nat) (vs : List Value)
      (hlen : vs.length = cells.length)
      (hrel : ∀ (j : Nat) (x : AV) (v : Value), cells[j]? = some x → vs[j]? = some v → VRel s x v)
      (hfx : ∀ (j : Nat) (v : Value), vs[j]? = some v → ∃ ad : Addr, a = some ad ∧ ad.spot = none ∧ s.fx ad.block (ad.off + j) = some v)
      (hnil : nl = a.isNone) (hnone : a = none → n = 0 ∧ cap = 0) (hspot : ∀ ad, a = some ad → cap ≠ 0 → ad.spot = none)
      (hcap : n ≤ cap) (hmax : cap ≤ 9223372036854775807) (htl : TailOK s tl a n cap) : VRel s (.sl nl n cells tl) (.slice a n cap)
  | st (cells : List AV) (vs : List Value) (hlen : vs.length = cells.length)
      (hrel : ∀ (j : Nat) (x : AV) (v : Value), cells[j]? = some x → vs[j]? = some v → VRel s x v) : VRel s (.st cells) (.agg vs.toArray)
  | ptr (b off c : Nat) (h : s.blk b = some c) : VRel s (.ptr b off) (.pointer (some ⟨c, off, none⟩))
  | sptr (cells : List AV) (ad : Addr) (vs : List Value) (hlen : vs.length = cells.length)
      (hrel : ∀ (j : Nat) (x : AV) (v : Value), cells[j]? = some x → vs[j]? = some v → VRel s x v)
      (hspot : ad.spot = none)
      (hfx : ∀ (j : Nat) (v : Value), vs[j]? = some v → s.fx ad.block (ad.off + j) = some v) : VRel s (.sptr cells) (.pointer (some ad))
  | nilp : VRel s .nilp (.pointer none)
  | msl (b off n : Nat) (cap : Option Nat) (c k : Nat) (h : s.blk b = some c) (hcap : n ≤ k) (hmax : k ≤ 9223372036854775807) (hk : ∀ q, cap = some q → q = k) :
      VRel s (.msl b off n cap) (.slice (some ⟨c, off, none⟩) n k)
  | fn (f : FuncId) (caps : List AV) (vs : List Value) (hlen : vs.length = caps.length)
      (hrel : ∀ (j : Nat) (x : AV) (v : Value), caps[j]? = some x → vs[j]? = some v → VRel s x v) : VRel s (.fn f caps) (.func (.func f) #[] vs.toArray)
  | nilfn : VRel s .nilfn .nilFunc
  | tup (ws : List AV) (vs : List Value) (hlen : vs.length = ws.length)
      (hrel : ∀ (j : Nat) (x : AV) (v : Value), ws[j]? = some x → vs[j]? = some v → VRel s x v) : VRel s (.tup ws) (.tuple vs.toArray)
  | map (b c : Nat) (h : s.mb b = some c) : VRel s (.map b) (.map (some c))
  | nilmap : VRel s .nilmap (.map none)

theorem TailOK.mono {s s' : Sg} (h : s.le s') {tl : Tail} {a : Option Addr} {n cap : Nat} (k : TailOK s tl a n cap) : TailOK s' tl a n cap := by
  cases tl with
  | full => exact k
  | unk => trivial
  | tok t =>
    obtain ⟨i, e, hl, hc⟩ := k
    obtain ⟨i', e', hl', hs⟩ := h.tok t i e
    refine ⟨i', e', by omega, fun hh => ?_⟩
    have : i' = i := hs (by omega)
    subst this
    exact hc hh

theorem VRel.mono {s s' : Sg} (h : s.le s') {x : AV} {v : Value} (k : VRel s x v) : VRel s' x v := by
  induction k with
  | undef v => exact .undef v
  | int k n h => exact .int k n h
  | bool b => exact .bool b
  | str b => exact .str b
  | sl nl n cells tl a cap vs hlen hrel hfx hnil hnone hspot hcap hmax htl ih =>
    exact .sl nl n cells tl a cap vs hlen ih (fun j v hv => let ⟨ad, e, hs, hx⟩ := hfx j v hv; ⟨ad, e, hs, h.fx _ _ _ hx⟩) hnil hnone hspot hcap hmax (htl.mono h)
  | st cells vs hlen hrel ih => exact .st cells vs hlen ih
  | ptr b off c hb => exact .ptr b off c (h.blk _ _ hb)
  | sptr cells ad vs hlen hrel hspot hfx ih => exact .sptr cells ad vs hlen ih hspot (fun j v hv => h.fx _ _ _ (hfx j v hv))
  | nilp => exact .nilp
  | msl b off n cap c k hb hcap hmax hk => exact .msl b off n cap c k (h.blk _ _ hb) hcap hmax hk
  | fn f caps vs hlen hrel ih => exact .fn f caps vs hlen ih
  | nilfn => exact .nilfn
  | tup ws vs hlen hrel ih => exact .tup ws vs hlen ih
  | map b c hb => exact .map b c (h.mb _ _ hb)
  | nilmap => exact .nilmap

/-- A slice of known tail is one of unknown tail. -/
theorem VRel.unk {s : Sg} {nl : Bool} {n : Nat} {cells : List AV} {tl : Tail} {v : Value} (h : VRel s (.sl nl n cells tl) v) : VRel s (.sl nl n cells .unk) v := by
  cases h with
  | sl _ _ _ _ a cap vs hlen hrel hfx hnil hnone hspot hcap hmax htl => exact .sl nl n cells .unk a cap vs hlen hrel hfx hnil hnone hspot hcap hmax trivial

/-- The values of a list of cells. -/
def VRels (s : Sg) (xs : List AV) (vs : List Value) : Prop :=
  vs.length = xs.length ∧ ∀ (j : Nat) (x : AV) (v : Value), xs[j]? = some x → vs[j]? = some v → VRel s x v

theorem VRels.mono {s s' : Sg} (h : s.le s') {xs : List AV} {vs : List Value} (k : VRels s xs vs) : VRels s' xs vs :=
  ⟨k.1, fun j x v hx hv => (k.2 j x v hx hv).mono h⟩
theorem VRels.nil (s : Sg) : VRels s [] [] := ⟨rfl, by simp⟩
theorem VRels.cons {s : Sg} {x : AV} {v : Value} {xs : List AV} {vs : List Value} (h : VRel s x v) (k : VRels s xs vs) : VRels s (x :: xs) (v :: vs) := by
  refine ⟨by simp [k.1], fun j y u hy hu => ?_⟩
  cases j with
  | zero => simp at hy hu; subst hy hu; exact h
  | succ j => exact k.2 j y u (by simpa using hy) (by simpa using hu)
theorem VRels.append {s : Sg} {xs ys : List AV} {vs ws : List Value} (h : VRels s xs vs) (k : VRels s ys ws) : VRels s (xs ++ ys) (vs ++ ws) := by
  refine ⟨by simp [h.1, k.1], fun j x v hx hv => ?_⟩
  rw [List.getElem?_append] at hx hv
  rw [h.1] at hv
  split at hx
  · rw [if_pos (by assumption)] at hv; exact h.2 j x v hx hv
  · rw [if_neg (by assumption)] at hv; exact k.2 _ x v hx hv
theorem VRels.drop {s : Sg} {xs : List AV} {vs : List Value} (h : VRels s xs vs) (n : Nat) : VRels s (xs.drop n) (vs.drop n) := by
  refine ⟨by simp [h.1], fun j x v hx hv => ?_⟩
  rw [List.getElem?_drop] at hx hv
  exact h.2 _ x v hx hv
theorem VRels.take {s : Sg} {xs : List AV} {vs : List Value} (h : VRels s xs vs) (n : Nat) : VRels s (xs.take n) (vs.take n) := by
  refine ⟨by simp [h.1], fun j x v hx hv => ?_⟩
  rw [List.getElem?_take] at hx hv
  split at hx
  · rw [if_pos (by assumption)] at hv; exact h.2 _ x v hx hv
  · cases hx
theorem VRels.at_ {s : Sg} {xs : List AV} {vs : List Value} (h : VRels s xs vs) {j : Nat} {x : AV} (hx : xs[j]? = some x) : ∃ v, vs[j]? = some v ∧ VRel s x v := by
  have hj : j < xs.length := (List.getElem?_eq_some_iff.1 hx).1
  have hj' : j < vs.length := by rw [h.1]; exact hj
  exact ⟨vs[j], List.getElem?_eq_getElem hj', h.2 j x _ hx (List.getElem?_eq_getElem hj')⟩

/-- The abstract heap: blocks that may be written, and growing slices. -/
structure AH where
  blk : Nat → Option (List AV)
  tok : Nat → Option (Nat × Nat)
  mp : Nat → Option (List (AV × AV))

def AH.emp : AH := ⟨fun _ => none, fun _ => none, fun _ => none⟩
def AH.put (h : AH) (b : Nat) (cells : List AV) : AH := { h with blk := fun x => if x = b then some cells else h.blk x }
def AH.del (h : AH) (b : Nat) : AH := { h with blk := fun x => if x = b then none else h.blk x }
/-- Growing slice t: its length, and the cells of an element. -/
def AH.setTok (h : AH) (t n size : Nat) : AH := { h with tok := fun x => if x = t then some (n, size) else h.tok x }

/-- Map b: its entries. -/
def AH.putM (h : AH) (b : Nat) (es : List (AV × AV)) : AH := { h with mp := fun x => if x = b then some es else h.mp x }

/-- h' holds all that h holds (and perhaps more). -/
structure AH.le (h h' : AH) : Prop where
  blk : ∀ b c, h.blk b = some c → h'.blk b = some c
  tok : ∀ t n, h.tok t = some n → h'.tok t = some n
  mp : ∀ b es, h.mp b = some es → h'.mp b = some es
theorem AH.le.refl (h : AH) : h.le h := ⟨fun _ _ e => e, fun _ _ e => e, fun _ _ e => e⟩
theorem AH.le.trans {a b c : AH} (h : a.le b) (k : b.le c) : a.le c := ⟨fun x y e => k.blk _ _ (h.blk x y e), fun x y e => k.tok _ _ (h.tok x y e), fun x y e => k.mp _ _ (h.mp x y e)⟩
/-- Block b of the heap, in the world. -/
def BlkOK (s : Sg) (w0 : World) (own : Nat → Prop) (w : World) (b : Nat) (cells : List AV) : Prop :=
  ∃ c vs e, s.blk b = some c ∧ w.heap[c]? = some (.cells vs e (0, 0)) ∧ cells.length ≤ vs.size ∧
    (∀ (j : Nat) (x : AV), cells[j]? = some x → ∃ v, vs[j]? = some v ∧ v.oneCell' = true ∧ VRel s x v) ∧ (∀ o, s.fx c o = none) ∧ (w0.heap.size ≤ c ∨ own c)

def TokOK (s : Sg) (w0 : World) (own : Nat → Prop) (w : World) (t : Nat) (p : Nat × Nat) : Prop :=
  ∃ i, s.tok t = some i ∧ i.len = p.1 ∧ i.size = p.2 ∧ (i.cap = p.1 ∨ (p.1 < i.cap ∧ ∃ vs e, w.heap[i.blk]? = some (.cells vs e (0, 0)) ∧ vs.size = i.cap * i.size ∧
    (∀ o, p.1 * i.size ≤ o → s.fx i.blk o = none) ∧ (w0.heap.size ≤ i.blk ∨ own i.blk)))

/-- The entries of a map. -/
def EntOK (s : Sg) (es : List (AV × AV)) (mes : List MapEntry) : Prop := mes.length = es.length ∧ ∀ (j : Nat) (e : AV × AV) (m : MapEntry), es[j]? = some e → mes[j]? = some m → VRel s e.1 m.key ∧ VRel s e.2 m.val
theorem EntOK.mono {s s' : Sg} (h : s.le s') {es : List (AV × AV)} {mes : List MapEntry} (k : EntOK s es mes) : EntOK s' es mes := ⟨k.1, fun j e m he hm => ⟨(k.2 j e m he hm).1.mono h, (k.2 j e m he hm).2.mono h⟩⟩
def MapOK (s : Sg) (w0 : World) (own : Nat → Prop) (w : World) (b : Nat) (es : List (AV × AV)) : Prop :=
  ∃ c mes clock, s.mb b = some c ∧ w.heap[c]? = some (.map mes clock) ∧ EntOK s es mes.toList ∧ (∀ e ∈ mes.toList, e.born < clock) ∧ (mes.toList.map (·.born)).Nodup ∧ (w0.heap.size ≤ c ∨ own c)

structure HSim (s : Sg) (h : AH) (w0 : World) (own : Nat → Prop) (w : World) : Prop where
  fx : ∀ b o v, s.fx b o = some v → w.cell? ⟨b, o, none⟩ = some v ∧ v.oneCell' = true
  blk : ∀ b cells, h.blk b = some cells → BlkOK s w0 own w b cells
  inj : ∀ b b' c, h.blk b ≠ none → h.blk b' ≠ none → s.blk b = some c → s.blk b' = some c → b = b'
  tok : ∀ t n, h.tok t = some n → TokOK s w0 own w t n
  tokinj : ∀ t t' n n' i i', h.tok t = some n → h.tok t' = some n' → s.tok t = some i → s.tok t' = some i' → n.1 < i.cap → n'.1 < i'.cap → i.blk = i'.blk → t = t'
  tokblk : ∀ t n i b, h.tok t = some n → s.tok t = some i → n.1 < i.cap → h.blk b ≠ none → s.blk b ≠ some i.blk
  nb : ∀ b, s.nb ≤ b → s.blk b = none
  nt : ∀ t, s.nt ≤ t → s.tok t = none
  mp : ∀ b es, h.mp b = some es → MapOK s w0 own w b es
  minj : ∀ b b' c, h.mp b ≠ none → h.mp b' ≠ none → s.mb b = some c → s.mb b' = some c → b = b'
  nm : ∀ b, s.nm ≤ b → s.mb b = none
  frame : ∀ k, k < w0.heap.size → ¬ own k → w.heap[k]? = w0.heap[k]?
  size : w0.heap.size ≤ w.heap.size
  os : w.os = w0.os
  tape : w.tape = w0.tape
  output : w.output = w0.output

/-- What is forgotten does no harm. -/
theorem HSim.weaken {s : Sg} {h h' : AH} {w0 : World} {own : Nat → Prop} {w : World} (k : HSim s h w0 own w) (hl : h'.le h) : HSim s h' w0 own w where
  fx := k.fx
  blk := fun b c e => k.blk b c (hl.blk _ _ e)
  inj := fun b b' c e e' => k.inj b b' c (fun x => by
    cases hb : h'.blk b with
    | none => exact e hb
    | some y => rw [hl.blk _ _ hb] at x; cases x) (fun x => by
    cases hb : h'.blk b' with
    | none => exact e' hb
    | some y => rw [hl.blk _ _ hb] at x; cases x)
  tok := fun t n e => k.tok t n (hl.tok _ _ e)
  tokinj := fun t t' n n' i i' e e' => k.tokinj t t' n n' i i' (hl.tok _ _ e) (hl.tok _ _ e')
  tokblk := fun t n i b e e1 e2 e3 => k.tokblk t n i b (hl.tok _ _ e) e1 e2 (fun x => by
    cases hb : h'.blk b with
    | none => exact e3 hb
    | some y => rw [hl.blk _ _ hb] at x; cases x)
  nb := k.nb
  nt := k.nt
  mp := fun b es e => k.mp b es (hl.mp _ _ e)
  minj := fun b b' c e e' => k.minj b b' c (fun x => by
    cases hb : h'.mp b with
    | none => exact e hb
    | some y => rw [hl.mp _ _ hb] at x; cases x) (fun x => by
    cases hb : h'.mp b' with
    | none => exact e' hb
    | some y => rw [hl.mp _ _ hb] at x; cases x)
  nm := k.nm
  frame := k.frame
  size := k.size
  os := k.os
  tape := k.tape
  output := k.output

/-- A draw turns nothing. -/
theorem HSim.draw {s : Sg} {h : AH} {w0 : World} {own : Nat → Prop} {w : World} (k : HSim s h w0 own w) (n : Nat) : HSim s h w0 own { w with drawn := n } where
  fx := k.fx
  blk := k.blk
  inj := k.inj
  tok := k.tok
  tokinj := k.tokinj
  tokblk := k.tokblk
  nb := k.nb
  nt := k.nt
  mp := k.mp
  minj := k.minj
  nm := k.nm
  frame := k.frame
  size := k.size
  os := k.os
  tape := k.tape
  output := k.output

end Go.Abs
