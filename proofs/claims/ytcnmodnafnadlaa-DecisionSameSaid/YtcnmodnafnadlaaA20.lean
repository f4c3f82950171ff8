/- More steps of the thought: a block's cells seen otherwise; blocks in another order; numbers' bits. No condition. -/
import Derived.Test.YtcnmodnafnadlaaD0
namespace Go.Abs
open Go
set_option linter.unusedSimpArgs false
set_option linter.unusedVariables false

theorem HSim.weakBlk {s : Sg} {h : AH} {w0 : World} {own : Nat → Prop} {w : World} (k : HSim s h w0 own w) {b : Nat} {cs cs' : List AV} (hb : h.blk b = some cs) (hl : cs'.length = cs.length)
    (hle : ∀ (j : Nat) (x y : AV), cs'[j]? = some x → cs[j]? = some y → AV.le x y) : HSim s (h.put b cs') w0 own w := by
  have hne : ∀ c, (h.put b cs').blk c ≠ none → h.blk c ≠ none := by
    intro c hc hn
    apply hc
    by_cases hcb : c = b
    · subst hcb; rw [hb] at hn; cases hn
    · rw [AH.blk_put_ne _ _ hcb]; exact hn
  exact {
    fx := k.fx
    blk := fun c cells e => by
      by_cases hcb : c = b
      · subst hcb
        rw [AH.blk_put] at e
        cases e
        obtain ⟨c', vs, t, a1, a2, a3, a4, a5, a6⟩ := k.blk c cs hb
        refine ⟨c', vs, t, a1, a2, by omega, fun j x hx => ?_, a5, a6⟩
        have hj : j < cs.length := by rw [← hl]; exact (List.getElem?_eq_some_iff.1 hx).1
        obtain ⟨v, b1, b2, b3⟩ := a4 j _ (List.getElem?_eq_getElem hj)
        exact ⟨v, b1, b2, hle j x _ hx (List.getElem?_eq_getElem hj) s v b3⟩
      · rw [AH.blk_put_ne _ _ hcb] at e; exact k.blk c cells e
    inj := fun c c' g e e' => k.inj c c' g (hne c e) (hne c' e')
    tok := k.tok
    tokinj := k.tokinj
    tokblk := fun t n i c e e1 e2 e3 => k.tokblk t n i c e e1 e2 (hne c e3)
    nb := k.nb
    nt := k.nt
    mp := k.mp
    minj := k.minj
    nm := k.nm
    frame := k.frame
    size := k.size
    os := k.os
    tape := k.tape
    output := k.output }

theorem GStep.weakBlk {e e' : Env} {h : AH} {b : Nat} {cs cs' : List AV} (hb : h.blk b = some cs) (hl : cs'.length = cs.length)
    (hle : ∀ (j : Nat) (x y : AV), cs'[j]? = some x → cs[j]? = some y → AV.le x y) (he : EnvLe e' e) : GStep e h e' (h.put b cs') := fun N s w0 own a w k =>
  ⟨s, Sg.le.refl s, k.heap.weakBlk hb hl hle, k.defers, k.size, fun t => he.get t _ _ (k.rel t)⟩
theorem GStep.weakOne {e e' : Env} {h : AH} {b : Nat} {x y : AV} (hb : h.blk b = some [y]) (hle : AV.le x y) (he : EnvLe e' e) : GStep e h e' (h.put b [x]) :=
  GStep.weakBlk hb rfl (fun j u v hu hv => by
    cases j with
    | zero => simp at hu hv; subst hu hv; exact hle
    | succ j => simp at hu) he
theorem RGh.weakOne {r r' : AV} {h : AH} {b : Nat} {x y : AV} (hb : h.blk b = some [y]) (hle : AV.le x y) (hr : AV.le r' r) : RGh r h r' (h.put b [x]) := fun s w0 own w v k kv =>
  ⟨s, Sg.le.refl s, k.weakBlk hb rfl (fun j u v hu hv => by
    cases j with
    | zero => simp at hu hv; subst hu hv; exact hle
    | succ j => simp at hu), hr _ _ kv⟩

theorem AH.put_comm (h : AH) {b c : Nat} (x y : List AV) (hbc : b ≠ c) : (h.put b x).put c y = (h.put c y).put b x := by
  simp only [AH.put, AH.mk.injEq, and_true]
  funext d
  by_cases hd : d = b <;> by_cases hc : d = c <;> simp_all
theorem AH.put_same {h : AH} {b : Nat} {x : List AV} (hb : h.blk b = some x) : h.put b x = h := by
  cases h with
  | mk blk tok mp =>
    simp only [AH.put, AH.mk.injEq, and_true]
    funext d
    by_cases hd : d = b
    · subst hd; simp; exact hb.symm
    · simp [hd]
theorem AH.le_put2 {h h' : AH} {b : Nat} {x : List AV} (hl : h.le h') : (h.put b x).le (h'.put b x) := by
  refine ⟨fun z w hz => ?_, fun _ _ hz => hl.tok _ _ hz, fun _ _ hz => hl.mp _ _ hz⟩
  simp only [AH.put] at hz ⊢
  split
  · rename_i hzb; subst hzb; simpa using hz
  · rename_i hzb
    rw [if_neg hzb] at hz
    exact hl.blk _ _ hz
/-- A block that is not known is forgotten. -/
theorem AH.le_new (h : AH) {c : Nat} (y : List AV) (hc : h.blk c = none) : h.le (h.put c y) := AH.le_put (AH.le.refl h) hc

theorem ownOf_put {s : Sg} {h : AH} {b : Nat} {cs cs' : List AV} (hb : h.blk b = some cs) : ownOf s (h.put b cs') = ownOf s h := by
  funext k
  apply propext
  unfold ownOf
  constructor
  · rintro (⟨c, h1, h2⟩ | h1)
    · refine .inl ⟨c, fun hn => h1 ?_, h2⟩
      by_cases hcb : c = b
      · subst hcb; rw [hb] at hn; cases hn
      · rw [AH.blk_put_ne _ _ hcb]; exact hn
    · exact .inr h1
  · rintro (⟨c, h1, h2⟩ | h1)
    · refine .inl ⟨c, fun hn => h1 ?_, h2⟩
      by_cases hcb : c = b
      · subst hcb; rw [AH.blk_put] at hn; cases hn
      · rw [AH.blk_put_ne _ _ hcb] at hn; exact hn
    · exact .inr h1
/-- A call that asks less of a block. -/
theorem ACalls.weakOne {P : Program} {f : FuncId} {args : List AV} {h : AH} {R : AV → AH → Prop} {b : Nat} {x y : AV} (hb : h.blk b = some [y]) (hle : AV.le x y) (hc : ACalls P f args (h.put b [x]) R) : ACalls P f args h R :=
  ⟨hc.1, fun s vs w hv hs => by
    have hs' : HSim s (h.put b [x]) w (ownOf s (h.put b [x])) w := by
      rw [ownOf_put hb]
      exact hs.weakBlk hb rfl (fun j u v hu hv => by
        cases j with
        | zero => simp at hu hv; subst hu hv; exact hle
        | succ j => simp at hu)
    have := hc.2 s vs w hv hs'
    rw [ownOf_put hb] at this
    exact this⟩

/-- A slice that may be written, held in a block, becomes fixed. -/
theorem HSim.fixIn {s : Sg} {h : AH} {w0 : World} {own : Nat → Prop} {w : World} (k : HSim s h w0 own w) {bm bi i n : Nat} {cap : Option Nat} {cells cs : List AV} (hm : h.blk bm = some cells) (hi : cells[i]? = some (.msl bi 0 n cap)) (hb : h.blk bi = some cs) (hne : bi ≠ bm) (size : Nat) :
    ∃ s', s.le s' ∧ HSim s' ((h.del bi).put bm (cells.set i (.sl false n (cs.take (n * size)) .unk))) w0 own w := by
  obtain ⟨s', c, vs, l1, l2, a1, hr, hf⟩ := k.fix hb
  refine ⟨s', l1, ?_⟩
  have hbm : (h.del bi).blk bm = some cells := by
    show (if bm = bi then none else h.blk bm) = _
    rw [if_neg (fun hh => hne hh.symm)]; exact hm
  have hne' : ∀ x, ((h.del bi).put bm (cells.set i (.sl false n (cs.take (n * size)) .unk))).blk x ≠ none → (h.del bi).blk x ≠ none := by
    intro x hx hn
    apply hx
    by_cases hxb : x = bm
    · subst hxb; rw [hbm] at hn; cases hn
    · rw [AH.blk_put_ne _ _ hxb]; exact hn
  exact {
    fx := l2.fx
    blk := fun x cls e => by
      by_cases hxb : x = bm
      · subst hxb
        rw [AH.blk_put] at e
        cases e
        obtain ⟨c', us, t, b1, b2, b3, b4, b5, b6⟩ := l2.blk x cells hbm
        refine ⟨c', us, t, b1, b2, by rw [List.length_set]; exact b3, fun j y hy => ?_, b5, b6⟩
        rw [List.getElem?_set] at hy
        have hil : i < cells.length := (List.getElem?_eq_some_iff.1 hi).1
        split at hy
        · rename_i hij
          subst hij
          cases hy
          obtain ⟨v, d1, d2, d3⟩ := b4 i _ hi
          refine ⟨v, d1, d2, ?_⟩
          obtain ⟨c2, kk, ev, hc2, hnk, hmax, hq⟩ := d3.msl_inv
          have hcc : c2 = c := by have := l1.blk _ _ a1; rw [hc2] at this; exact Option.some.inj this
          subst hcc
          have hrt := hr.take (n * size)
          rw [ev]
          exact .sl false n _ .unk (some ⟨c2, 0, none⟩) kk (vs.take (n * size)) hrt.1 hrt.2 (fun j v hv => ⟨_, rfl, rfl, by
            rw [List.getElem?_take] at hv
            split at hv
            · simpa using hf j v hv
            · cases hv⟩) rfl (by simp) (by simp) hnk hmax trivial
        · exact b4 j y hy
      · rw [AH.blk_put_ne _ _ hxb] at e; exact l2.blk x cls e
    inj := fun x y g e e' => l2.inj x y g (hne' x e) (hne' y e')
    tok := l2.tok
    tokinj := l2.tokinj
    tokblk := fun t n i x e e1 e2 e3 => l2.tokblk t n i x e e1 e2 (hne' x e3)
    nb := l2.nb
    nt := l2.nt
    mp := l2.mp
    minj := l2.minj
    nm := l2.nm
    frame := l2.frame
    size := l2.size
    os := l2.os
    tape := l2.tape
    output := l2.output }

/-! ### Bits -/
theorem wrap_nat {m : Nat} (h : m < 9223372036854775808) : IntKind.wrap .i64 (m : Int) = m := wrap_in (by rw [inR64]; omega)
theorem fdiv_pow (m i : Nat) : Int.fdiv (m : Int) (2 ^ i) = ((m / 2 ^ i : Nat) : Int) := by
  rw [Int.fdiv_eq_ediv_of_nonneg _ (Int.le_of_lt (Int.pow_pos (by decide)))]
  rw [show (2 : Int) ^ i = ((2 ^ i : Nat) : Int) by simp]
  exact (Int.natCast_ediv _ _).symm
theorem ofInt_nat (m : Nat) : BitVec.ofInt 64 (m : Int) = BitVec.ofNat 64 m := by simp
theorem bit_and {x y : Nat} (hx : x < 9223372036854775808) (hy : y < 9223372036854775808) : bitop .and .i64 (x : Int) (y : Int) = ((x &&& y : Nat) : Int) := by
  have h1 : x &&& y ≤ x := Nat.and_le_left
  show IntKind.wrap .i64 (((BitVec.ofInt 64 (x : Int) &&& BitVec.ofInt 64 (y : Int)).toNat : Nat) : Int) = _
  rw [ofInt_nat, ofInt_nat, BitVec.toNat_and, BitVec.toNat_ofNat, BitVec.toNat_ofNat, Nat.mod_eq_of_lt (by omega), Nat.mod_eq_of_lt (by omega), wrap_nat (by omega)]
theorem bit_or {x y : Nat} (hx : x < 9223372036854775808) (hy : y < 9223372036854775808) : bitop .or .i64 (x : Int) (y : Int) = ((x ||| y : Nat) : Int) := by
  have h1 : x ||| y < 2 ^ 63 := Nat.or_lt_two_pow (by omega) (by omega)
  show IntKind.wrap .i64 (((BitVec.ofInt 64 (x : Int) ||| BitVec.ofInt 64 (y : Int)).toNat : Nat) : Int) = _
  rw [ofInt_nat, ofInt_nat, BitVec.toNat_or, BitVec.toNat_ofNat, BitVec.toNat_ofNat, Nat.mod_eq_of_lt (by omega), Nat.mod_eq_of_lt (by omega), wrap_nat (by omega)]
/-- The bit of a number, as the code asks for it. -/
theorem bit_at {m i : Nat} (hm : m < 9223372036854775808) (hi : i ≤ 64) : bitop .and .i64 (Int.fdiv (m : Int) (2 ^ (Nat.min i 64))) 1 = if m.testBit i then 1 else 0 := by
  have e1 : Nat.min i 64 = i := by exact Nat.min_eq_left hi
  rw [e1, fdiv_pow]
  have h1 : m / 2 ^ i ≤ m := Nat.div_le_self _ _
  have h2 := bit_and (x := m / 2 ^ i) (y := 1) (by omega) (by omega)
  rw [show ((1 : Nat) : Int) = 1 from rfl] at h2
  rw [h2, Nat.and_one_is_mod, Nat.testBit_eq_decide_div_mod_eq]
  have := Nat.mod_two_eq_zero_or_one (m / 2 ^ i)
  rcases this with h | h <;> simp [h]
theorem shl_one {i : Nat} (hi : i ≤ 62) : IntKind.wrap .i64 (1 * 2 ^ (Nat.min i 64)) = ((2 ^ i : Nat) : Int) := by
  have e1 : Nat.min i 64 = i := by exact Nat.min_eq_left (by omega)
  rw [e1, Int.one_mul, show (2 : Int) ^ i = ((2 ^ i : Nat) : Int) by simp]
  refine wrap_nat ?_
  have : 2 ^ i ≤ 2 ^ 62 := Nat.pow_le_pow_right (by decide) hi
  omega
end Go.Abs
