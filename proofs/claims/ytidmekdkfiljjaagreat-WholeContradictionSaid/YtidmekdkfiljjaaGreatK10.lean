/- Soundness of the operations that turn nothing: append onto a full slice, calls; all of them together. No condition. -/
import Derived.Test.YtidmekdkfiljjaaGreatK9
namespace Go.Abs
open Go

theorem rdSl_inv {s : Sg} {h : AH} {w0 : World} {own : Nat → Prop} {w : World} (hs : HSim s h w0 own w) {size : Nat} {y : AV} {v : Value} (hy : VRel s y v) {K : Nat → List AV → Prop} (hk : rdSl size h y K) :
    ∃ B m c ys news, v = .slice B m c ∧ VRels s ys news ∧ news.length = m * size ∧ (∀ (j : Nat) (u : Value), news[j]? = some u → ∃ b : Addr, B = some b ∧ w.cell? (b.add j) = some u) ∧ (∀ u ∈ news, u.oneCell' = true) ∧ (B = none → m = 0) ∧ K m ys := by
  unfold rdSl at hk
  split at hk
  · rename_i nl m ys tl
    obtain ⟨A, cap, vs, ev, hr, hfx, hnil, hnone, hspot, hcap, hmax, htl⟩ := hy.sl_inv
    obtain ⟨hlen, hk⟩ := hk
    refine ⟨A, m, cap, ys, vs, ev, hr, by rw [hr.1]; exact hlen, fun j u hu => ?_, fun u hu => ?_, fun e => (hnone e).1, hk⟩
    · obtain ⟨ad, e1, e2, e3⟩ := hfx j u hu
      exact ⟨ad, e1, by rw [add_eq e2]; exact (hs.fx _ _ _ e3).1⟩
    · obtain ⟨j, hj, rfl⟩ := List.getElem_of_mem hu
      obtain ⟨ad, e1, e2, e3⟩ := hfx j _ (List.getElem?_eq_getElem hj)
      exact (hs.fx _ _ _ e3).2
  · rename_i b off m cap
    obtain ⟨c, k, ev, hc, hnk, hmax, hq⟩ := hy.msl_inv
    obtain ⟨cs, hcs, hle, hk⟩ := hk
    obtain ⟨c', vs, e, h1, h2, h3, h4, _, _⟩ := hs.blk b cs hcs
    rw [hc] at h1; cases h1
    have hr : VRels s cs (vs.toList.take cs.length) := ⟨by simp; omega, fun j x v hx hv => by
      obtain ⟨v', hv', _, hr⟩ := h4 j x hx
      rw [List.getElem?_take] at hv
      split at hv
      · have : vs[j]? = some v := by simpa using hv
        rw [hv'] at this; cases this; exact hr
      · cases hv⟩
    have hr2 := (hr.drop off).take (m * size)
    have key : ∀ (j : Nat) (u : Value), (List.take (m * size) (List.drop off (List.take cs.length vs.toList)))[j]? = some u → w.cell? ⟨c, off + j, none⟩ = some u ∧ u.oneCell' = true := by
      intro j u hu
      rw [List.getElem?_take] at hu
      split at hu
      · rw [List.getElem?_drop, List.getElem?_take] at hu
        split at hu
        · rename_i hlt
          obtain ⟨v', hv', ho, _⟩ := h4 (off + j) _ (List.getElem?_eq_getElem hlt)
          have hx : vs[off + j]? = some u := by simpa using hu
          refine ⟨by simp only [World.cell?, h2]; simpa using hx, ?_⟩
          rw [hv'] at hx; cases hx; exact ho
        · cases hu
      · cases hu
    refine ⟨some ⟨c, off, none⟩, m, k, _, _, ev, hr2, by rw [hr2.1]; simp; omega, fun j u hu => ⟨_, rfl, ?_⟩, fun u hu => ?_, fun e => (by cases e), hk⟩
    · rw [add_eq rfl]; exact (key j u hu).1
    · obtain ⟨j, hj, rfl⟩ := List.getElem_of_mem hu
      exact (key j _ (List.getElem?_eq_getElem hj)).2
  · exact hk.elim

theorem run_append_zero {P : Program} (w : World) (t ty e : TypeId) (i : TypeInfo) (ht : P.underlying t = some (.slice e)) (hi : P.info? e = some i) (A B : Option Addr) (n cap c : Nat) (hn : n ≤ cap) :
    (Builtin.append_ #[t, t] ty #[.slice A n cap, .slice B 0 c]).run P w = .ok (.slice A n cap) w := by
  cases A <;> cases B <;> simp [Builtin.append_, run_underlying ht, sizeOf, typeInfo, hi, Builtin.lenOf, Builtin.firstCells, hn, storeCells, loadCells, loadCellsFrom]

theorem elemT_inv {P : Program} {t e : TypeId} (h : elemT P t = some e) : P.underlying t = some (.slice e) := by
  unfold elemT at h
  obtain ⟨d, h1, h⟩ := bind_some h
  cases d <;> first | (cases h; done) | (cases h; exact h1)

/-- append where the slice is grown: the new block. -/
theorem run_append_new {P : Program} (w : World) (t ty e : TypeId) (i : TypeInfo) (z : Value) (ht : P.underlying t = some (.slice e)) (hi : P.info? e = some i) (hz : i.zero = some z)
    (A : Option Addr) (n cap : Nat) (olds : List Value) (hlo : olds.length = n * i.size) (holds : ∀ (j : Nat) (v : Value), olds[j]? = some v → ∃ b : Addr, A = some b ∧ w.cell? (b.add j) = some v) (hA : A = none → n = 0 ∧ cap = 0)
    (B : Addr) (m c : Nat) (news : List Value) (hl : news.length = m * i.size) (hnews : ∀ (j : Nat) (v : Value), news[j]? = some v → w.cell? (B.add j) = some v)
    (hg : cap < n + m) (h63 : n + m ≤ 9223372036854775807) (hb : (n + m) * i.bytes ≤ 140737488355328) :
    ∃ cap' arr, (Builtin.append_ #[t, t] ty #[.slice A n cap, .slice (some B) m c]).run P w = .ok (.slice (some ⟨w.heap.size, 0, none⟩) (n + m) cap') (w.drew.alloc (.cells arr e)) ∧ n + m ≤ cap' ∧ cap' ≤ 9223372036854775807 ∧
      arr = olds.toArray ++ news.toArray ++ Builtin.zeroCells z.cells (cap' - (n + m)) := by
  cases A with
  | none =>
    obtain ⟨rfl, rfl⟩ := hA rfl
    have h0 : olds = [] := List.eq_nil_of_length_eq_zero (by simpa using hlo)
    subst h0
    have hr := run_append_nil (P := P) w t ty e i z ht hi hz B m c news hl hnews (by omega) (by omega) (by simp at hb; omega)
    refine ⟨grownCap w m 0 e, news.toArray ++ Builtin.zeroCells z.cells (grownCap w m 0 e - m), ?_, by simpa using grownCap_ge w m 0 e, ?_, ?_⟩
    · rw [Nat.zero_add]; exact hr
    · exact grownCap_le_maxLen w m 0 e (by simp only [maxLen]; omega)
    · simp
  | some ad =>
    have hr := run_append_grow (P := P) w t ty e i z ht hi hz ad n cap olds hlo (fun j v hv => by obtain ⟨b, e1, e2⟩ := holds j v hv; cases e1; exact e2) B m c news hl hnews hg (by omega) (growslice_fits hg hb)
    exact ⟨grownCap w (n + m) cap e, _, hr, grownCap_ge w _ _ e, grownCap_le_maxLen w _ _ e (by simp only [maxLen]; omega), rfl⟩

theorem sF_append {P : Program} {o : Oper} {t e' : TypeId} {i : TypeInfo} {x y : Operand} {ax ay : Arg} {c : Call} {z : List AV} (ho : o.op = .call c) (hc : c.callee = .builtin .append) (ha : c.args = #[x, y]) (hty : c.argTypes = #[t, t])
    (hu : P.underlying t = some (.slice e')) (hi : P.info? e' = some i) (hz : zeroT P e' = some z) (hx : cArg x = some ax) (hy : cArg y = some ay) : FSound P o (.append i.size i.bytes ax ay) := by
  intro N s e h w0 own a w hs K hk next Q hn
  have rx := cArg_rel hs hx
  have ry := cArg_rel hs hy
  obtain ⟨i', zv, hi', hzv, _, _, _⟩ := zeroT_inv hz s
  rw [hi] at hi'; cases hi'
  simp only [evF] at hk
  split at hk
  · rename_i nl n cs hb
    rw [hb] at rx
    obtain ⟨A, cap, vs, ev, hr, hfx, hnil, hnone, hspot, hcap, hmax, htl⟩ := rx.sl_inv
    have hcn : cap = n := htl
    subst hcn
    obtain ⟨hlen, hk⟩ := hk
    obtain ⟨B, m, c', ys, news, ev2, hr2, hl2, hc2, h12, hB, hbnd, h47, hk⟩ := rdSl_inv hs.heap ry hk
    have hexec : (execOp a.eval o).run P w = ((Builtin.append_ #[t, t] o.type #[.slice A cap cap, .slice B m c']).run P w).andThen fun v w' => .ok (.value v) w' := by
      simp [execOp, ho, resolve, hc, ha, hty, invoke, builtin, ev, ev2]
    by_cases hm : m = 0
    · subst hm
      have hys : ys = [] := List.eq_nil_of_length_eq_zero (by rw [← hr2.1, hl2]; simp)
      subst hys
      refine wp_pure (v := .slice A cap cap) ?_ (hn s _ _ w (Sg.le.refl s) hs.heap ?_ hk)
      · rw [hexec, run_append_zero w t o.type e' i hu hi A B cap cap c' (Nat.le_refl _)]; rfl
      · rw [List.append_nil]
        refine .sl _ _ _ _ A cap vs hr.1 hr.2 hfx ?_ hnone hspot (by omega) hmax trivial
        rw [hnil]
        cases A with
        | none => have := (hnone rfl).1; simp [this]
        | some _ => simp
    · cases B with
      | none => exact absurd (hB rfl) hm
      | some B =>
        obtain ⟨cap', arr, hrun, hge, hle, harr⟩ := run_append_new (P := P) w t o.type e' i zv hu hi hzv A cap cap vs (by rw [hr.1]; exact hlen)
          (fun j v hv => by obtain ⟨ad, e1, e2, e3⟩ := hfx j v hv; exact ⟨ad, e1, by rw [add_eq e2]; exact (hs.heap.fx _ _ _ e3).1⟩) hnone B m c' news hl2 (fun j v hv => by obtain ⟨b, e1, e2⟩ := hc2 j v hv; cases e1; exact e2) (by omega) (by omega) hbnd
        have hone : ∀ v ∈ vs ++ news, v.oneCell' = true := by
          intro v hv
          rcases List.mem_append.1 hv with hv | hv
          · obtain ⟨j, hj, rfl⟩ := List.getElem_of_mem hv
            obtain ⟨ad, e1, e2, e3⟩ := hfx j _ (List.getElem?_eq_getElem hj)
            exact (hs.heap.fx _ _ _ e3).2
          · exact h12 v hv
        have hg : (w.drew.alloc (.cells arr e')).heap[w.heap.size]? = some (.cells arr e' (0, 0)) := push_new w.drew _
        obtain ⟨b1, b2, b3⟩ := hs.heap.alloc_fx (Later.drew_alloc w (.cells arr e')) hg (vs ++ news) (by
          intro j v hj
          rw [harr]
          have hjl : j < (vs ++ news).length := (List.getElem?_eq_some_iff.1 hj).1
          rw [Array.getElem?_append_left (by simpa using hjl)]
          simpa using hj) hone
        unfold Oper.wp
        rw [hexec, hrun]
        have hrel := (hr.append hr2).mono b1
        refine hn _ _ _ _ b1 b2 (.sl (nl && decide (cap + m = 0)) (cap + m) (cs ++ ys) .unk (some ⟨w.heap.size, 0, none⟩) cap' (vs ++ news) hrel.1 hrel.2 (fun j v hv => ⟨_, rfl, rfl, by simpa using b3 j v hv⟩) ?_ (by simp) (by simp) hge hle trivial) hk
        simp
        exact fun _ _ => hm
  · exact hk.elim

theorem run_call_enter {P : Program} {f : FuncId} (h : callOK P f = true) (args : Array Value) (w : World) : (callFunc f args).run P w = .ok (.enter f args) w := by
  unfold callOK at h
  split at h
  · rename_i fn hf
    simp only [Bool.and_eq_true, Bool.not_eq_true'] at h
    obtain ⟨c, hc⟩ := Option.isSome_iff_exists.mp h.2
    have h1 : (fn.name == "runtime.NumGoroutine") = false := h.1
    simp only [callFunc, Sem.run_bind, run_program, Result.andThen_ok, hf, h1, hc]
    simp
  · cases h

/-- A call met by what is said of the callee. -/
theorem wp_call {P : Program} {o : Oper} {N : Nat} {s : Sg} {e : Env} {h : AH} {w0 : World} {own : Nat → Prop} {a : Act} {w : World} (hs : ASim N s e h w0 own a w) {f : FuncId} {args : List AV} {vs : List Value} {R : AV → AH → Prop}
    (hc : ACalls P f args h R) (hv : VRels s args vs) (hrun : (execOp a.eval o).run P w = (callFunc f vs.toArray).run P w) (next : Act → World → Prop) (Q : Exit → Act → World → Prop)
    (hn : ∀ (s' : Sg) (x : AV) (v : Value) (h' : AH) (w' : World), s.le s' → HSim s' h' w0 own w' → VRel s' x v → R x h' → next (a.put o.dst v) w') : o.wp P a w next Q := by
  obtain ⟨hok, hc⟩ := hc
  unfold Oper.wp
  rw [hrun, run_call_enter hok]
  have h0 : HSim s h w (ownOf s h) w := by
    have k := hs.heap
    exact {
      fx := k.fx
      blk := fun b cells eb => by
        obtain ⟨c, vs, t, a1, a2, a3, a4, a5, a6⟩ := k.blk b cells eb
        exact ⟨c, vs, t, a1, a2, a3, a4, a5, .inr (.inl ⟨b, by rw [eb]; simp, a1⟩)⟩
      inj := k.inj
      tok := fun t n et => by
        obtain ⟨i, a1, a2, a2', a3⟩ := k.tok t n et
        exact ⟨i, a1, a2, a2', a3.imp id fun ⟨b1, ws, ty, b2, b3, b4, b5⟩ => ⟨b1, ws, ty, b2, b3, b4, .inr (.inr (.inl ⟨t, n, i, et, a1, b1, rfl⟩))⟩⟩
      tokinj := k.tokinj
      tokblk := k.tokblk
      nb := k.nb
      nt := k.nt
      mp := fun b es eb => by
        obtain ⟨c, mes, ck, a1, a2, a3, a4, a5, a6⟩ := k.mp b es eb
        exact ⟨c, mes, ck, a1, a2, a3, a4, a5, .inr (.inr (.inr ⟨b, by rw [eb]; simp, a1⟩))⟩
      minj := k.minj
      nm := k.nm
      frame := fun _ _ _ => rfl
      size := Nat.le_refl _
      os := rfl
      tape := rfl
      output := rfl }
  refine (hc s vs w hv h0).mono ?_
  rintro en w' ⟨s', r, v, h', hle, hh, rfl, hr, hR⟩
  refine hn s' r v h' w' hle ?_ hr hR
  have k := hs.heap
  -- what the caller must leave alone, the callee leaves alone
  have hown : ∀ c, ownOf s h c → w0.heap.size ≤ c ∨ own c := by
    intro c hoc
    rcases hoc with ⟨b, hb, hsb⟩ | ⟨t, n, i, ht, hi, hlt, rfl⟩ | ⟨b, hb, hsb⟩
    · cases hcs : h.blk b with
      | none => exact absurd hcs hb
      | some cs =>
        obtain ⟨c', vs, ty, a1, a2, a3, a4, a5, a6⟩ := k.blk b cs hcs
        rw [hsb] at a1; cases a1; exact a6
    · obtain ⟨i', a1, a2, _, a3⟩ := k.tok t n ht
      rw [hi] at a1; cases a1
      rcases a3 with a3 | ⟨_, ws, ty, b2, b3, b4, b5⟩
      · omega
      · exact b5
    · cases hcs : h.mp b with
      | none => exact absurd hcs hb
      | some es =>
        obtain ⟨c', mes, ck, a1, a2, a3, a4, a5, a6⟩ := k.mp b es hcs
        rw [hsb] at a1; cases a1; exact a6
  have hlow : ∀ c, (w.heap.size ≤ c ∨ ownOf s h c) → (w0.heap.size ≤ c ∨ own c) := by
    intro c hc
    rcases hc with hc | hc
    · exact .inl (Nat.le_trans k.size hc)
    · exact hown c hc
  exact {
    fx := hh.fx
    blk := fun b cells eb => by
      obtain ⟨c, vs, t, a1, a2, a3, a4, a5, a6⟩ := hh.blk b cells eb
      exact ⟨c, vs, t, a1, a2, a3, a4, a5, hlow c a6⟩
    inj := hh.inj
    tok := fun t n et => by
      obtain ⟨i, a1, a2, a2', a3⟩ := hh.tok t n et
      exact ⟨i, a1, a2, a2', a3.imp id fun ⟨b1, ws, ty, b2, b3, b4, b5⟩ => ⟨b1, ws, ty, b2, b3, b4, hlow _ b5⟩⟩
    tokinj := hh.tokinj
    tokblk := hh.tokblk
    nb := hh.nb
    nt := hh.nt
    mp := fun b es eb => by
      obtain ⟨c, mes, ck, a1, a2, a3, a4, a5, a6⟩ := hh.mp b es eb
      exact ⟨c, mes, ck, a1, a2, a3, a4, a5, hlow c a6⟩
    minj := hh.minj
    nm := hh.nm
    frame := fun j hj ho => by
      have hjw : j < w.heap.size := Nat.lt_of_lt_of_le hj k.size
      rw [hh.frame j hjw (fun hc => by
        rcases hown j hc with h1 | h1
        · omega
        · exact ho h1)]
      exact k.frame j hj ho
    size := Nat.le_trans k.size hh.size
    os := hh.os.trans k.os
    tape := hh.tape.trans k.tape
    output := hh.output.trans k.output }

theorem sF_call {P : Program} {o : Oper} {f : FuncId} {c : Call} {as : List Arg} (ho : o.op = .call c) (hc : c.callee = .value (.func f)) (ha : c.args.toList.mapM cArg = some as) : FSound P o (.call f as) := by
  intro N s e h w0 own a w hs K hk next Q hn
  have r := cArgs_rel hs ha
  obtain ⟨v, hcall, hk⟩ := hk
  refine wp_call hs (hcall h (AH.leB.refl h)) r ?_ next Q (fun s' x u h' w' h1 h2 h3 ⟨e1, e2⟩ => hn s' x u w' h1 (e2 ▸ h2) h3 (e1 ▸ hk))
  have e1 : Array.map a.eval c.args = (c.args.toList.map a.eval).toArray := by apply Array.ext'; simp
  simp [execOp, ho, resolve, hc, Act.eval, Deferred.ofValue, invoke]
  rw [e1]

theorem sF_callv {P : Program} {o : Oper} {t : Nat} {c : Call} {as : List Arg} (ho : o.op = .call c) (hc : c.callee = .value (.tmp t)) (ha : c.args.toList.mapM cArg = some as) : FSound P o (.callv (.t t) as) := by
  intro N s e h w0 own a w hs K hk next Q hn
  have r := cArgs_rel hs ha
  have rf := hs.rel t
  simp only [evF, Arg.ev] at hk
  split at hk
  · rename_i f caps hb
    rw [hb] at rf
    obtain ⟨vs, ev, hr⟩ := rf.fn_inv
    obtain ⟨v, hcall, hk⟩ := hk
    refine wp_call hs (hcall h (AH.leB.refl h)) (r.append hr) ?_ next Q (fun s' x u h' w' h1 h2 h3 ⟨e1, e2⟩ => hn s' x u w' h1 (e2 ▸ h2) h3 (e1 ▸ hk))
    have hev : a.eval (.tmp t) = .func (.func f) #[] vs.toArray := ev
    simp [execOp, ho, resolve, hc, hev, Deferred.ofValue, invoke]
    congr 2
    apply Array.ext'; simp
  · exact hk.elim
end Go.Abs
