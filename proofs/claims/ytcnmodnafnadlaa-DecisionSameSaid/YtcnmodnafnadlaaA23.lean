/- Steps of the thought ahead of a call; values that say less; growing lists within a block; rows of a list. No condition. -/
import Derived.Test.YtcnmodnafnadlaaA22
namespace Go.Abs
open Go
set_option linter.unusedSimpArgs false
set_option linter.unusedVariables false

theorem AH.le_setTok2 {h h' : AH} {t n size : Nat} (hl : h.le h') : (h.setTok t n size).le (h'.setTok t n size) :=
  ⟨hl.blk, fun x m e => by
    simp only [AH.setTok] at e ⊢
    split at e
    · rename_i hx; rw [if_pos hx]; exact e
    · rename_i hx; rw [if_neg hx]; exact hl.tok x m e, hl.mp⟩
theorem take_getD {α : Type} (d : α) {l : List α} {i : Nat} (h : i < l.length) : l.take (i + 1) = l.take i ++ [l.getD i d] := by
  rw [List.take_add_one]
  simp [h]
theorem take_map_succ {α β : Type} (f : α → β) (d : α) {l : List α} {i : Nat} (h : i < l.length) : (l.take (i + 1)).map f = (l.take i).map f ++ [f (l.getD i d)] := by
  rw [take_getD d h, List.map_append]
  rfl
theorem asl_gl (l : List Int) {n : Nat} (hn : n = l.length) : asl l = gl (i64s l) n .unk := by
  subst hn
  cases l <;> rfl
theorem gl_pos {cs : List AV} {n : Nat} {tl : Tail} (h : 0 < n) : gl cs n tl = .sl false n cs tl := by
  unfold gl
  rw [decide_eq_false (by omega)]
theorem gl_zero {cs : List AV} {tl : Tail} : gl cs 0 tl = .sl true 0 cs tl := rfl

/-! ### Values that say less -/
inductive CLe : List AV → List AV → Prop where
  | nil : CLe [] []
  | cons {x y : AV} {xs ys : List AV} (h : AV.le x y) (k : CLe xs ys) : CLe (x :: xs) (y :: ys)
theorem CLe.rels {xs ys : List AV} (h : CLe xs ys) : ∀ {s : Sg} {vs : List Value}, VRels s ys vs → VRels s xs vs := by
  induction h with
  | nil => intro s vs hv; exact hv
  | cons h k ih =>
    intro s vs hv
    cases vs with
    | nil => simp [VRels] at hv
    | cons v vs => exact .cons (h s v (hv.2 0 _ v rfl rfl)) (ih ⟨by simpa using hv.1, fun j x u hx hu => hv.2 (j + 1) x u (by simpa using hx) (by simpa using hu)⟩)
theorem CLe.refl : ∀ (xs : List AV), CLe xs xs
  | [] => .nil
  | x :: xs => .cons (AV.le.refl x) (CLe.refl xs)
theorem AV.le.tupC {xs ys : List AV} (h : CLe xs ys) : AV.le (.tup xs) (.tup ys) := fun s v hv => by
  obtain ⟨vs, rfl, hr⟩ := hv.tup_inv
  have := h.rels (s := s) (vs := vs) hr
  exact .tup _ _ this.1 this.2
theorem AV.le.stC {xs ys : List AV} (h : CLe xs ys) : AV.le (.st xs) (.st ys) := fun s v hv => by
  obtain ⟨vs, rfl, hr⟩ := hv.st_inv
  have := h.rels hr
  exact .st _ _ this.1 this.2
theorem AV.le.glU {cs : List AV} {n : Nat} {tl : Tail} : AV.le (gl cs n .unk) (gl cs n tl) := AV.le.unk

/-! ### A step ahead of a call -/
def CStep (args : List AV) (h : AH) (args' : List AV) (h' : AH) : Prop :=
  ∀ (s : Sg) (w0 : World) (own : Nat → Prop) (w : World) (vs : List Value), HSim s h w0 own w → VRels s args vs → ∃ s', s.le s' ∧ HSim s' h' w0 own w ∧ VRels s' args' vs
theorem ACalls.step {P : Program} {f : FuncId} {args args' : List AV} {h h2 : AH} {R : AV → AH → Prop} (hst : CStep args h args' h2) (hcall : ACalls P f args' h2 R) : ACalls P f args h R := by
  obtain ⟨hok, hc⟩ := hcall
  refine ⟨hok, fun s0 vs w hv0 hs0 => ?_⟩
  obtain ⟨s, hle0, k, hv⟩ := hst s0 w (ownOf s0 h) w vs hs0 hv0
  have h0 : HSim s h2 w (ownOf s h2) w := by
    exact {
      fx := k.fx
      blk := fun b cells eb => by
        obtain ⟨c, vs, t, a1, a2, a3, a4, a5, a6⟩ := k.blk b cells eb
        exact ⟨c, vs, t, a1, a2, a3, a4, a5, .inr (.inl ⟨b, by rw [eb]; simp, a1⟩)⟩
      inj := k.inj
      tok := fun t n et => by
        obtain ⟨i, a1, a2, a2', a3⟩ := k.tok t n et
        exact ⟨i, a1, a2, a2', a3.imp id fun ⟨b1, ws, ty, b2, b3, b4, b5⟩ => ⟨b1, ws, ty, b2, b3, b4, .inr (.inr (.inl ⟨t, n, i, et, a1, b1, rfl⟩))⟩⟩
      tokinj := k.tokinj
      tokblk := k.tokblk
      nb := k.nb
      nt := k.nt
      mp := fun b es eb => by
        obtain ⟨c, mes, ck, a1, a2, a3, a4, a5, a6⟩ := k.mp b es eb
        exact ⟨c, mes, ck, a1, a2, a3, a4, a5, .inr (.inr (.inr ⟨b, by rw [eb]; simp, a1⟩))⟩
      minj := k.minj
      nm := k.nm
      frame := fun _ _ _ => rfl
      size := Nat.le_refl _
      os := rfl
      tape := rfl
      output := rfl }
  refine (hc s vs w hv h0).mono ?_
  rintro en w' ⟨s', r, v, h', hle, hh, rfl, hr, hR⟩
  refine ⟨s', r, v, h', hle0.trans hle, ?_, rfl, hr, hR⟩
  have hown : ∀ c, ownOf s h2 c → w.heap.size ≤ c ∨ ownOf s0 h c := by
    intro c hoc
    rcases hoc with ⟨b, hb, hsb⟩ | ⟨t, n, i, ht, hi, hlt, rfl⟩ | ⟨b, hb, hsb⟩
    · cases hcs : h2.blk b with
      | none => exact absurd hcs hb
      | some cs =>
        obtain ⟨c', vs, ty, a1, a2, a3, a4, a5, a6⟩ := k.blk b cs hcs
        rw [hsb] at a1; cases a1; exact a6
    · obtain ⟨i', a1, a2, _, a3⟩ := k.tok t n ht
      rw [hi] at a1; cases a1
      rcases a3 with a3 | ⟨_, ws, ty, b2, b3, b4, b5⟩
      · omega
      · exact b5
    · cases hcs : h2.mp b with
      | none => exact absurd hcs hb
      | some es =>
        obtain ⟨c', mes, ck, a1, a2, a3, a4, a5, a6⟩ := k.mp b es hcs
        rw [hsb] at a1; cases a1; exact a6
  have hlow : ∀ c, (w.heap.size ≤ c ∨ ownOf s h2 c) → (w.heap.size ≤ c ∨ ownOf s0 h c) := by
    intro c hc
    rcases hc with hc | hc
    · exact .inl hc
    · exact hown c hc
  exact {
    fx := hh.fx
    blk := fun b cells eb => by
      obtain ⟨c, vs, t, a1, a2, a3, a4, a5, a6⟩ := hh.blk b cells eb
      exact ⟨c, vs, t, a1, a2, a3, a4, a5, hlow c a6⟩
    inj := hh.inj
    tok := fun t n et => by
      obtain ⟨i, a1, a2, a2', a3⟩ := hh.tok t n et
      exact ⟨i, a1, a2, a2', a3.imp id fun ⟨b1, ws, ty, b2, b3, b4, b5⟩ => ⟨b1, ws, ty, b2, b3, b4, hlow _ b5⟩⟩
    tokinj := hh.tokinj
    tokblk := hh.tokblk
    nb := hh.nb
    nt := hh.nt
    mp := fun b es eb => by
      obtain ⟨c, mes, ck, a1, a2, a3, a4, a5, a6⟩ := hh.mp b es eb
      exact ⟨c, mes, ck, a1, a2, a3, a4, a5, hlow c a6⟩
    minj := hh.minj
    nm := hh.nm
    frame := fun j hj ho => by
      rw [hh.frame j hj (fun hc => by
        rcases hown j hc with h1 | h1
        · omega
        · exact ho h1)]
    size := hh.size
    os := hh.os
    tape := hh.tape
    output := hh.output }
theorem CStep.le {args args' : List AV} {h : AH} (hl : CLe args' args) : CStep args h args' h := fun s w0 own w vs k kv => ⟨s, Sg.le.refl s, k, hl.rels kv⟩
theorem RCall.le {P : Program} {f : FuncId} {args args' : List AV} {h : AH} {v : AV} (hl : CLe args' args) (hc : RCall P f args' h v) : RCall P f args h v := fun h' hh => ACalls.step (CStep.le hl) (hc h' hh)

/-- A slice that may be written becomes fixed. -/
theorem VRel.fixed {s s' : Sg} {b c n : Nat} {cap : Option Nat} {cs : List AV} {vs : List Value} {v : Value} (h : VRel s (.msl b 0 n cap) v) (hl : s.le s') (hc : s.blk b = some c) (hr : VRels s' cs vs) (hf : ∀ (j : Nat) (v : Value), vs[j]? = some v → s'.fx c j = some v) (size : Nat) :
    VRel s' (.sl false n (cs.take (n * size)) .unk) v := by
  obtain ⟨c2, kk, ev, hc2, hnk, hmax, hq⟩ := h.msl_inv
  have hcc : c2 = c := by rw [hc2] at hc; exact Option.some.inj hc
  subst hcc
  have hrt := hr.take (n * size)
  rw [ev]
  exact .sl false n _ .unk (some ⟨c2, 0, none⟩) kk (vs.take (n * size)) hrt.1 hrt.2 (fun j v hv => ⟨_, rfl, rfl, by
    rw [List.getElem?_take] at hv
    split at hv
    · simpa using hf j v hv
    · cases hv⟩) rfl (by simp) (by simp) hnk hmax trivial
theorem VRels.swap {s s' : Sg} {pre post : List AV} {x y : AV} {vs : List Value} (h : VRels s (pre ++ x :: post) vs) (hl : s.le s') (hx : ∀ v, VRel s x v → VRel s' y v) : VRels s' (pre ++ y :: post) vs := by
  refine ⟨by simpa using h.1, fun j z v hz hv => ?_⟩
  by_cases hj : j = pre.length
  · subst hj
    simp at hz
    subst hz
    exact hx v (h.2 _ x v (by simp) hv)
  · refine (h.2 j z v ?_ hv).mono hl
    rw [List.getElem?_append] at hz ⊢
    split at hz
    · rename_i hlt; rw [if_pos hlt]; exact hz
    · rename_i hlt
      rw [if_neg hlt]
      obtain ⟨d, hd⟩ : ∃ d, j - pre.length = d + 1 := ⟨j - pre.length - 1, by omega⟩
      rw [hd] at hz ⊢
      simpa using hz
/-- In a field of an argument. -/
theorem CStep.fixSt {b n : Nat} {cap : Option Nat} {h : AH} {cs pre post as : List AV} (hb : h.blk b = some cs) (size : Nat) :
    CStep (.st (pre ++ .msl b 0 n cap :: post) :: as) h (.st (pre ++ .sl false n (cs.take (n * size)) .unk :: post) :: as) (h.del b) := by
  intro s w0 own w vs k kv
  obtain ⟨s', c, us, l1, l2, a1, hr, hf⟩ := k.fix hb
  refine ⟨s', l1, l2, ?_⟩
  refine kv.swap (pre := []) l1 fun v hv => ?_
  obtain ⟨ws, rfl, hws⟩ := hv.st_inv
  have := hws.swap (pre := pre) l1 (y := .sl false n (cs.take (n * size)) .unk) fun v hv => hv.fixed l1 a1 hr hf size
  exact .st _ _ this.1 this.2
/-- An argument. -/
theorem CStep.fixArg {b n : Nat} {cap : Option Nat} {h : AH} {cs pre post : List AV} (hb : h.blk b = some cs) (size : Nat) :
    CStep (pre ++ .msl b 0 n cap :: post) h (pre ++ .sl false n (cs.take (n * size)) .unk :: post) (h.del b) := by
  intro s w0 own w vs k kv
  obtain ⟨s', c, us, l1, l2, a1, hr, hf⟩ := k.fix hb
  exact ⟨s', l1, l2, kv.swap l1 fun v hv => hv.fixed l1 a1 hr hf size⟩
theorem AH.del_put {h : AH} {b : Nat} {cs : List AV} (hb : h.blk b = none) : (h.put b cs).del b = h := by
  simp only [AH.put, AH.del]
  congr 1
  funext y
  split
  · rename_i hy; subst hy; exact hb.symm
  · rfl

/-! ### A growing list within a block -/
theorem awp_tokB {P : Program} {g : Cfg} {Q : Exit → Env → AH → Prop} {e : Env} {h : AH} {c : C} (b j size : Nat) {cells : List AV} {nl : Bool} {n : Nat} {cs : List AV} (hb : h.blk b = some cells) (hj : cells[j]? = some (.sl nl n cs .full))
    (hk : ∀ t, h.tok t = none → AWP P g c Q e ((h.put b (cells.set j (.sl nl n cs (.tok t)))).setTok t n size)) : AWP P g c Q e h := by
  intro code hc s w0 own a w hs
  obtain ⟨s', b1, b2, b3, b4⟩ := hs.heap.fullTok n size
  have hne : ∀ c, ((h.setTok s.nt n size).put b (cells.set j (.sl nl n cs (.tok s.nt)))).blk c ≠ none → (h.setTok s.nt n size).blk c ≠ none := by
    intro c hc hn
    apply hc
    by_cases hcb : c = b
    · subst hcb; rw [AH.blk_setTok, hb] at hn; cases hn
    · rw [AH.blk_put_ne _ _ hcb]; exact hn
  have hsim : HSim s' ((h.setTok s.nt n size).put b (cells.set j (.sl nl n cs (.tok s.nt)))) w0 own w := {
    fx := b2.fx
    blk := fun c cls ec => by
      by_cases hcb : c = b
      · subst hcb
        rw [AH.blk_put] at ec
        cases ec
        obtain ⟨c', vs, t, a1, a2, a3, a4, a5, a6⟩ := b2.blk c cells hb
        refine ⟨c', vs, t, a1, a2, by rw [List.length_set]; exact a3, fun i x hx => ?_, a5, a6⟩
        rw [List.getElem?_set] at hx
        split at hx
        · rename_i hji
          subst hji
          split at hx
          · cases hx
            obtain ⟨v, c1, c2, hr⟩ := a4 j _ hj
            refine ⟨v, c1, c2, ?_⟩
            obtain ⟨A, cap, ws, ev, hr2, hfx, hnil, hnone, hspot, hcap, hmax, htl⟩ := hr.sl_inv
            have hcn : cap = n := htl
            rw [ev]
            exact .sl nl n cs (.tok s.nt) A cap ws hr2.1 hr2.2 hfx hnil hnone hspot hcap hmax
              ⟨_, b3, Nat.le_refl _, fun _ => ⟨hcn, fun hh => absurd hh (Nat.lt_irrefl _)⟩⟩
          · cases hx
        · exact a4 i x hx
      · rw [AH.blk_put_ne _ _ hcb] at ec; exact b2.blk c cls ec
    inj := fun c c' g e e' => b2.inj c c' g (hne c e) (hne c' e')
    tok := b2.tok
    tokinj := b2.tokinj
    tokblk := fun t n i c e e1 e2 e3 => b2.tokblk t n i c e e1 e2 (hne c e3)
    nb := b2.nb
    nt := b2.nt
    mp := b2.mp
    minj := b2.minj
    nm := b2.nm
    frame := b2.frame
    size := b2.size
    os := b2.os
    tape := b2.tape
    output := b2.output }
  rw [← AH.put_setTok] at hsim
  exact wp_mono (hk s.nt b4 code hc s' w0 own a w ⟨hsim, hs.defers, hs.size, fun u => (hs.rel u).mono b1⟩) fun _ _ _ ⟨s'', e'', h'', m1, m2, m3⟩ => ⟨s'', e'', h'', b1.trans m1, m2, m3⟩

/-! ### Rows -/
theorem flat_len {α : Type} {f : α → List AV} {n : Nat} (hf : ∀ x, (f x).length = n) (l : List α) : (l.flatMap f).length = l.length * n := by
  induction l with
  | nil => simp
  | cons x l ih => simp only [List.flatMap_cons, List.length_append, hf, ih, List.length_cons, Nat.add_mul, Nat.one_mul]; omega
theorem flat_drop {α : Type} {f : α → List AV} {n : Nat} (hf : ∀ x, (f x).length = n) (d : α) : ∀ {l : List α} {i : Nat}, i < l.length → (l.flatMap f).drop (i * n) = f (l.getD i d) ++ (l.flatMap f).drop ((i + 1) * n) := by
  intro l
  induction l with
  | nil => intro i h; simp at h
  | cons x l ih =>
    intro i h
    rw [List.flatMap_cons]
    cases i with
    | zero =>
      have : (f x ++ l.flatMap f).drop ((0 + 1) * n) = l.flatMap f := by
        rw [List.drop_append, List.drop_of_length_le (by rw [hf]; omega), hf]; simp
      rw [this]; simp
    | succ i =>
      have key : ∀ k, (f x ++ l.flatMap f).drop ((k + 1) * n) = (l.flatMap f).drop (k * n) := fun k => by
        rw [List.drop_append, List.drop_of_length_le (by rw [hf, Nat.add_mul]; omega), hf, Nat.add_mul, Nat.one_mul, Nat.add_sub_cancel, List.nil_append]
      rw [key, key, ih (by simpa using h)]
      simp
end Go.Abs
