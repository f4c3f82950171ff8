/- Soundness of the operations that turn nothing: lengths, slices, literals, append onto a full slice, calls. No condition. -/
import Derived.Test.YtidmekdkfiljjaaGreatK7
namespace Go.Abs
open Go

theorem sF_len {P : Program} {o : Oper} {t e' : TypeId} {x : Operand} {ax : Arg} {c : Call} (ho : o.op = .call c) (hc : c.callee = .builtin .len) (ha : c.args = #[x]) (hty : c.argTypes = #[t]) (hu : P.underlying t = some (.slice e'))
    (hx : cArg x = some ax) : FSound P o (.len ax) := by
  intro N s e h w0 own a w hs K hk next Q hn
  have r := cArg_rel hs hx
  have key : ∀ (A : Option Addr) (n cap : Nat), a.eval x = .slice A n cap → n ≤ 9223372036854775807 → K (.int .i64 n) → o.wp P a w next Q := by
    intro A n cap ev hmax hk
    refine wp_pure (v := .int .i64 n) ?_ (hn s _ _ w (Sg.le.refl s) hs.heap (.int .i64 _ ?_) hk)
    · simp [execOp, ho, resolve, hc, ha, hty, invoke, builtin, ev, Builtin.len_, run_underlying hu, goInt]
    · simp only [InR, IntKind.min, IntKind.max, IntKind.signed, IntKind.bits]; simp; omega
  simp only [evF] at hk
  split at hk
  · rename_i nl n cs tl hb
    rw [hb] at r
    obtain ⟨A, cap, vs, ev, _, _, _, _, _, hcap, hmax, _⟩ := r.sl_inv
    exact key A n cap ev (by omega) hk
  · rename_i b off n cap hb
    rw [hb] at r
    obtain ⟨c', k, ev, _, hcap, hmax, _⟩ := r.msl_inv
    exact key _ n k ev (by omega) hk
  · exact hk.elim

theorem sF_max {P : Program} {o : Oper} {x y : Operand} {ax ay : Arg} {c : Call} (ho : o.op = .call c) (hc : c.callee = .builtin .max) (ha : c.args = #[x, y])
    (hx : cArg x = some ax) (hy : cArg y = some ay) : FSound P o (.max ax ay) := by
  intro N s e h w0 own a w hs K hk next Q hn
  have rx := cArg_rel hs hx
  have ry := cArg_rel hs hy
  simp only [evF] at hk
  split at hk
  · rename_i k p k' q hb hc'
    rw [hb] at rx; rw [hc'] at ry
    obtain ⟨e1, r1⟩ := rx.int_inv
    obtain ⟨e2, r2⟩ := ry.int_inv
    obtain ⟨rfl, hk⟩ := hk
    refine wp_pure (v := .int k (Max.max p q)) ?_ (hn s _ _ w (Sg.le.refl s) hs.heap (.int k _ ?_) hk)
    · have : (if q > p then q else p) = Max.max p q := by rw [Int.max_def]; split <;> split <;> omega
      simp [execOp, ho, resolve, hc, ha, invoke, builtin, e1, e2, Builtin.max_, Builtin.max2]
      first | exact this | (rw [← this])
    · rw [Int.max_def]; split <;> assumption
  · exact hk.elim

theorem sF_min {P : Program} {o : Oper} {x y : Operand} {ax ay : Arg} {c : Call} (ho : o.op = .call c) (hc : c.callee = .builtin .min) (ha : c.args = #[x, y])
    (hx : cArg x = some ax) (hy : cArg y = some ay) : FSound P o (.min ax ay) := by
  intro N s e h w0 own a w hs K hk next Q hn
  have rx := cArg_rel hs hx
  have ry := cArg_rel hs hy
  simp only [evF] at hk
  split at hk
  · rename_i k p k' q hb hc'
    rw [hb] at rx; rw [hc'] at ry
    obtain ⟨e1, r1⟩ := rx.int_inv
    obtain ⟨e2, r2⟩ := ry.int_inv
    obtain ⟨rfl, hk⟩ := hk
    refine wp_pure (v := .int k (Min.min p q)) ?_ (hn s _ _ w (Sg.le.refl s) hs.heap (.int k _ ?_) hk)
    · have : (if q < p then q else p) = Min.min p q := by rw [Int.min_def]; split <;> split <;> omega
      simp [execOp, ho, resolve, hc, ha, invoke, builtin, e1, e2, Builtin.min_, Builtin.min2]
      first | exact this | (rw [← this])
    · rw [Int.min_def]; split <;> assumption
  · exact hk.elim

theorem VRel.tup_inv {s : Sg} {xs : List AV} {v : Value} (h : VRel s (.tup xs) v) : ∃ vs, v = .tuple vs.toArray ∧ VRels s xs vs := by
  cases h with | tup _ vs h1 h2 => exact ⟨vs, rfl, h1, h2⟩

theorem sF_extract {P : Program} {o : Oper} {x : Operand} {ax : Arg} {i : Nat} (ho : o.op = .extract x i) (hx : cArg x = some ax) : FSound P o (.extract ax i) := by
  intro N s e h w0 own a w hs K hk next Q hn
  have r := cArg_rel hs hx
  simp only [evF] at hk
  split at hk
  · rename_i vs hb
    rw [hb] at r
    obtain ⟨us, ev, hr⟩ := r.tup_inv
    obtain ⟨z, hz, hk⟩ := hk
    obtain ⟨u, hu, hrel⟩ := hr.at_ hz
    refine wp_pure (v := u) ?_ (hn s z u w (Sg.le.refl s) hs.heap hrel hk)
    simp [execOp, ho, ev, Instr.extract, hu]
  · exact hk.elim

theorem sF_nilCheck {P : Program} {o : Oper} {x : Operand} {ax : Arg} (ho : o.op = .nilCheck x) (hx : cArg x = some ax) : FSound P o (.nilCheck ax) := by
  intro N s e h w0 own a w hs K hk next Q hn
  have r := cArg_rel hs hx
  simp only [evF] at hk
  split at hk
  · rename_i b off hb
    rw [hb] at r
    obtain ⟨c, ev, hc⟩ := r.ptr_inv
    exact wp_pure (v := a.eval x) (by simp [execOp, ho, ev]) (hn s _ _ w (Sg.le.refl s) hs.heap r hk)
  · rename_i cs hb
    rw [hb] at r
    obtain ⟨ad, vs, ev, _⟩ := r.sptr_inv
    exact wp_pure (v := a.eval x) (by simp [execOp, ho, ev]) (hn s _ _ w (Sg.le.refl s) hs.heap r hk)
  · rename_i f caps hb
    rw [hb] at r
    obtain ⟨vs, ev, _⟩ := r.fn_inv
    exact wp_pure (v := a.eval x) (by simp [execOp, ho, ev]) (hn s _ _ w (Sg.le.refl s) hs.heap r hk)
  · exact hk.elim

theorem sF_makeFunc {P : Program} {o : Oper} {f : FuncId} {caps : Array Operand} {as : List Arg} (ho : o.op = .makeFunc (.func f) #[] caps) (hc : caps.toList.mapM cArg = some as) : FSound P o (.makeFunc f as) := by
  intro N s e h w0 own a w hs K hk next Q hn
  have r := cArgs_rel hs hc
  simp only [evF] at hk
  refine wp_pure (v := .func (.func f) #[] (caps.toList.map a.eval).toArray) ?_ (hn s _ _ w (Sg.le.refl s) hs.heap (.fn f _ _ r.1 r.2) hk)
  have : Array.map a.eval caps = (caps.toList.map a.eval).toArray := by apply Array.ext'; simp
  simp [execOp, ho, Instr.makeFunc, this]

/-! ### A slice of a slice -/
theorem evBound_run {P : Program} {N : Nat} {s : Sg} {e : Env} {h : AH} {w0 : World} {own : Nat → Prop} {a : Act} {w : World} (hs : ASim N s e h w0 own a w) {x : Operand} {ax : Arg} (hx : cArg x = some ax) {d : Nat} {K : Nat → Prop}
    (hk : evBound e d K (some ax)) : ∃ n : Nat, K n ∧ ∀ y code, n ≤ y → (Instr.sliceBound (a.eval x) y code).run P w = .ok n w := by
  have r := cArg_rel hs hx
  simp only [evBound] at hk
  split at hk
  · rename_i k n hb
    rw [hb] at r
    obtain ⟨ev, _⟩ := r.int_inv
    refine ⟨n.toNat, hk.2, fun y code hy => ?_⟩
    have : 0 ≤ n ∧ n ≤ (y : Int) := ⟨hk.1, by omega⟩
    simp [Instr.sliceBound, ev, asIntOf, this]
  · exact hk.elim

theorem cOpt_inv {x : Option Operand} {ax : Option Arg} (h : cOpt x = some ax) : (x = none ∧ ax = none) ∨ ∃ y ay, x = some y ∧ ax = some ay ∧ cArg y = some ay := by
  cases x with
  | none => simp [cOpt] at h; exact .inl ⟨rfl, h.symm⟩
  | some y =>
    simp only [cOpt] at h
    cases hy : cArg y with
    | none => simp [hy] at h
    | some ay => simp [hy] at h; exact .inr ⟨y, ay, rfl, h.symm, hy⟩

/-- The bounds: low, high and max, as the run has them. -/
theorem evBounds_run {P : Program} {N : Nat} {s : Sg} {e : Env} {h : AH} {w0 : World} {own : Nat → Prop} {a : Act} {w : World} (hs : ASim N s e h w0 own a w) {lo hi mx : Option Operand} {al ah am : Option Arg}
    (hl : cOpt lo = some al) (hh : cOpt hi = some ah) (hm : cOpt mx = some am) (hmh : (mx.isSome && hi.isNone) = false) {n cap : Nat} (hcap : n ≤ cap) {R : Nat → Nat → Nat → Prop}
    (hk : evBound e n (fun m => m ≤ n ∧ evBound e n (fun h' => h' ≤ m ∧ evBound e 0 (fun l => l ≤ h' ∧ R m h' l) al) ah) am) :
    ∃ m m' h' l, R m h' l ∧ l ≤ h' ∧ h' ≤ m ∧ m ≤ n ∧ (mx = none → m = n ∧ m' = cap) ∧ (mx ≠ none → m' = m) ∧ (hi = none → h' = n) ∧ (lo = none → l = 0) ∧
      (Instr.sliceBounds true n cap (lo.map a.eval) (hi.map a.eval) (mx.map a.eval)).run P w = .ok (l, h', m') w := by
  have stepL : ∀ (h' : Nat) (T : Nat → Prop), evBound e 0 T al → ∃ l, T l ∧ (lo = none → l = 0) ∧ ∀ code, l ≤ h' → (match lo.map a.eval with | some v => Instr.sliceBound v h' code | none => (pure 0 : Sem Nat)).run P w = .ok l w := by
    intro h' T hT
    rcases cOpt_inv hl with ⟨rfl, rfl⟩ | ⟨y, ay, rfl, rfl, hy⟩
    · exact ⟨0, hT, fun _ => rfl, fun _ _ => rfl⟩
    · obtain ⟨l, h1, h2⟩ := evBound_run (P := P) hs hy hT
      exact ⟨l, h1, fun e => (by cases e), fun code hle => h2 h' code hle⟩
  rcases cOpt_inv hm with ⟨rfl, rfl⟩ | ⟨ym, aym, rfl, rfl, hym⟩
  · obtain ⟨hmn, hk⟩ := hk
    rcases cOpt_inv hh with ⟨rfl, rfl⟩ | ⟨yh, ayh, rfl, rfl, hyh⟩
    · obtain ⟨hhm, hk⟩ := hk
      obtain ⟨l, ⟨hlh, hR⟩, hl0, hrun⟩ := stepL n _ hk
      refine ⟨n, cap, n, l, hR, hlh, hhm, hmn, fun _ => ⟨rfl, rfl⟩, fun e => absurd rfl e, fun _ => rfl, hl0, ?_⟩
      have := hrun .sliceB hlh
      cases lo <;> simp_all [Instr.sliceBounds]
    · obtain ⟨h', ⟨hhm, hk⟩, hrunh⟩ := evBound_run (P := P) hs hyh hk
      obtain ⟨l, ⟨hlh, hR⟩, hl0, hrun⟩ := stepL h' _ hk
      refine ⟨n, cap, h', l, hR, hlh, hhm, hmn, fun _ => ⟨rfl, rfl⟩, fun e => absurd rfl e, fun e => (by cases e), hl0, ?_⟩
      have := hrun .sliceB hlh
      have h2 := hrunh cap .sliceAcap (by omega)
      cases lo <;> simp_all [Instr.sliceBounds]
  · obtain ⟨m, ⟨hmn, hk⟩, hrunm⟩ := evBound_run (P := P) hs hym hk
    rcases cOpt_inv hh with ⟨rfl, rfl⟩ | ⟨yh, ayh, rfl, rfl, hyh⟩
    · simp at hmh
    · obtain ⟨h', ⟨hhm, hk⟩, hrunh⟩ := evBound_run (P := P) hs hyh hk
      obtain ⟨l, ⟨hlh, hR⟩, hl0, hrun⟩ := stepL h' _ hk
      refine ⟨m, m, h', l, hR, hlh, hhm, hmn, fun e => (by cases e), fun _ => rfl, fun e => (by cases e), hl0, ?_⟩
      have := hrun .slice3C hlh
      have h2 := hrunh m .slice3B hhm
      have h3 := hrunm cap .slice3Acap (by omega)
      cases lo <;> simp_all [Instr.sliceBounds]

theorem sF_slice {P : Program} {o : Oper} {t e' : TypeId} {x : Operand} {ax : Arg} {lo hi mx : Option Operand} {al ah am : Option Arg} {size : Nat} (ho : o.op = .slice t x lo hi mx) (hu : P.underlying t = some (.slice e')) (hz : sizeT P e' = some size)
    (hx : cArg x = some ax) (hl : cOpt lo = some al) (hh : cOpt hi = some ah) (hm : cOpt mx = some am) (hmh : (mx.isSome && hi.isNone) = false) : FSound P o (.slice size ax al ah am) := by
  intro N s e h w0 own a w hs K hk next Q hn
  have r := cArg_rel hs hx
  simp only [evF] at hk
  split at hk
  · rename_i nl n cs tl hb
    rw [hb] at r
    obtain ⟨A, cap, vs, ev, hr, hfx, hnil, hnone, hspot, hcap, hmax, htl⟩ := r.sl_inv
    obtain ⟨m, m', h', l, hR, hlh, hhm, hmn, c1, c2, c3, c4, hrun⟩ := evBounds_run (P := P) hs hl hh hm hmh hcap hk
    have hm' : m ≤ m' ∧ m' ≤ cap := by
      cases mx with
      | none => obtain ⟨e1, e2⟩ := c1 rfl; omega
      | some _ => have := c2 (by simp); omega
    refine wp_pure (v := .slice (if m' = l then A else A.map (·.add (l * size))) (h' - l) (m' - l)) ?_ (hn s _ _ w (Sg.le.refl s) hs.heap ?_ hR)
    · simp [execOp, ho, ev, Instr.sliceAt, Instr.slice, run_underlying hu, hrun, sizeT_run hz]
    · have hrr := (hr.drop (l * size)).take ((h' - l) * size)
      refine .sl nl (h' - l) _ _ _ (m' - l) ((vs.drop (l * size)).take ((h' - l) * size)) hrr.1 hrr.2 (fun j v hv => ?_) ?_ (fun hA => ?_) (fun ad had hcp => ?_) (by omega) (by omega) ?_
      · rw [List.getElem?_take] at hv
        split at hv
        · rename_i hj
          rw [List.getElem?_drop] at hv
          obtain ⟨ad, e1, e2, e3⟩ := hfx _ v hv
          have hpos : 0 < h' - l := by
            rcases Nat.eq_zero_or_pos (h' - l) with h0 | h0
            · rw [h0] at hj; simp at hj
            · exact h0
          rw [if_neg (by omega), e1]
          refine ⟨ad.add (l * size), rfl, by rw [add_eq e2], ?_⟩
          rw [add_eq e2]
          simpa [Nat.add_assoc] using e3
        · cases hv
      · rw [hnil]; split <;> simp
      · have hA' : A = none := by split at hA <;> simpa using hA
        have := hnone hA'
        omega
      · split at had
        · exact hspot ad had (by omega)
        · cases A with
          | none => simp at had
          | some ad' => simp at had; rw [← had, add_eq (hspot ad' rfl (by omega))]
      · -- the tail
        rcases cOpt_inv hm with ⟨rfl, rfl⟩ | ⟨ym, aym, rfl, rfl, hym⟩
        · obtain ⟨em, em'⟩ := c1 rfl
          rcases cOpt_inv hh with ⟨rfl, rfl⟩ | ⟨yh, ayh, rfl, rfl, hyh⟩
          · have eh := c3 rfl
            rcases cOpt_inv hl with ⟨rfl, rfl⟩ | ⟨yl, ayl, rfl, rfl, hyl⟩
            · have el := c4 rfl
              subst el eh em'
              have hsame : (if m' = 0 then A else A.map (·.add (0 * size))) = A := by
                split
                · rfl
                · cases A <;> simp [Addr.add]
              rw [hsame]
              simpa using htl
            · cases tl with
              | full => simp only [TailOK] at htl ⊢; omega
              | unk => trivial
              | tok t => trivial
          · trivial
        · have := c2 (by simp)
          simp only
          split
          · simp only [TailOK]; omega
          · trivial
  · rename_i b off n cap hb
    rw [hb] at r
    obtain ⟨c, k, ev, hc, hnk, hmax, hq⟩ := r.msl_inv
    have hcapk : cap.getD n ≤ k := by
      cases cap with
      | none => exact hnk
      | some q => exact Nat.le_of_eq (hq q rfl)
    have stepL : ∀ (h' : Nat) (T : Nat → Prop), evBound e 0 T al → ∃ l, T l ∧ ∀ code, l ≤ h' → (match lo.map a.eval with | some v => Instr.sliceBound v h' code | none => (pure 0 : Sem Nat)).run P w = .ok l w := by
      intro h' T hT
      rcases cOpt_inv hl with ⟨rfl, rfl⟩ | ⟨y, ay, rfl, rfl, hy⟩
      · exact ⟨0, hT, fun _ _ => rfl⟩
      · obtain ⟨l, h1, h2⟩ := evBound_run (P := P) hs hy hT
        exact ⟨l, h1, fun code hle => h2 h' code hle⟩
    split at hk
    · rcases cOpt_inv hm with ⟨rfl, _⟩ | ⟨ym, aym, rfl, heq, hym⟩
      · have fin : ∀ h' l, h' ≤ cap.getD n → l ≤ h' → K (mslCut b off size h' l (cap.getD n) (cap.map (· - l))) → (Instr.sliceBounds true n k (lo.map a.eval) (hi.map a.eval) none).run P w = .ok (l, h', k) w → o.wp P a w next Q := by
          intro h' l h1 h2 h4 hrun
          by_cases hl : l = 0 ∨ l < cap.getD n
          · rw [mslCut, if_pos hl] at h4
            refine wp_pure (v := .slice (some ⟨c, off + l * size, none⟩) (h' - l) (k - l)) ?_ (hn s _ _ w (Sg.le.refl s) hs.heap (.msl b _ _ _ c (k - l) hc (by omega) (by omega) (fun q hq' => ?_)) h4)
            · simp [execOp, ho, ev, Instr.sliceAt, Instr.slice, run_underlying hu, hrun, sizeT_run hz]
              by_cases hkl : k = l
              · rw [if_pos hkl]
                have : l = 0 := by omega
                simp [this]
              · rw [if_neg hkl]; simp [Addr.add_lit]
            · cases cap with
              | none => simp at hq'
              | some q0 => have := hq q0 rfl; simp at hq'; omega
          · rw [mslCut, if_neg hl] at h4
            have h0 : h' - l = 0 := by omega
            by_cases hkl : k = l
            · subst hkl
              refine wp_pure (v := .slice (some ⟨c, off, none⟩) (h' - k) (k - k)) ?_ (hn s _ _ w (Sg.le.refl s) hs.heap (.sl false _ [] .unk _ _ [] rfl (by simp) (by simp) rfl (by simp) (fun ad had _ => by cases had; rfl) (by omega) (by omega) trivial) h4)
              simp [execOp, ho, ev, Instr.sliceAt, Instr.slice, run_underlying hu, hrun, sizeT_run hz]
            · refine wp_pure (v := .slice (some ⟨c, off + l * size, none⟩) (h' - l) (k - l)) ?_ (hn s _ _ w (Sg.le.refl s) hs.heap (.sl false _ [] .unk _ _ [] rfl (by simp) (by simp) rfl (by simp) (fun ad had _ => by cases had; rfl) (by omega) (by omega) trivial) h4)
              simp [execOp, ho, ev, Instr.sliceAt, Instr.slice, run_underlying hu, hrun, sizeT_run hz, hkl, Addr.add_lit]
        rcases cOpt_inv hh with ⟨rfl, rfl⟩ | ⟨yh, ayh, rfl, rfl, hyh⟩
        · obtain ⟨h1, hk⟩ := hk
          obtain ⟨l, ⟨hlh, hK⟩, hrun⟩ := stepL n _ hk
          refine fin n l h1 hlh hK ?_
          have := hrun .sliceB hlh
          cases lo <;> simp_all [Instr.sliceBounds]
        · obtain ⟨h', ⟨h1, hk⟩, hrunh⟩ := evBound_run (P := P) hs hyh hk
          obtain ⟨l, ⟨hlh, hK⟩, hrun⟩ := stepL h' _ hk
          refine fin h' l h1 hlh hK ?_
          have := hrun .sliceB hlh
          have h2 := hrunh k .sliceAcap (by omega)
          cases lo <;> simp_all [Instr.sliceBounds]
      · cases heq
    · rcases cOpt_inv hm with ⟨rfl, heq⟩ | ⟨ym, aym, rfl, heq, hym⟩
      · cases heq
      · cases heq
        rcases cOpt_inv hh with ⟨rfl, rfl⟩ | ⟨yh, ayh, rfl, rfl, hyh⟩
        · simp at hmh
        · obtain ⟨m, ⟨hmc, hk⟩, hrunm⟩ := evBound_run (P := P) hs hym hk
          obtain ⟨h', ⟨h1, hk⟩, hrunh⟩ := evBound_run (P := P) hs hyh hk
          obtain ⟨l, ⟨hlh, hK⟩, hrun⟩ := stepL h' _ hk
          have hb : (Instr.sliceBounds true n k (lo.map a.eval) ((some yh).map a.eval) ((some ym).map a.eval)).run P w = .ok (l, h', m) w := by
            have := hrun .slice3C hlh
            have h2 := hrunh m .slice3B h1
            have h3 := hrunm k .slice3Acap (by omega)
            cases lo <;> simp_all [Instr.sliceBounds]
          simp only [Option.map_some] at hb
          by_cases hl : l = 0 ∨ l < m
          · rw [mslCut, if_pos hl] at hK
            refine wp_pure (v := .slice (some ⟨c, off + l * size, none⟩) (h' - l) (m - l)) ?_ (hn s _ _ w (Sg.le.refl s) hs.heap (.msl b _ _ _ c (m - l) hc (by omega) (by omega) (fun q hq' => by simp at hq'; omega)) hK)
            simp [execOp, ho, ev, Instr.sliceAt, Instr.slice, run_underlying hu, hb, sizeT_run hz]
            by_cases hkl : m = l
            · rw [if_pos hkl]
              have : l = 0 := by omega
              simp [this]
            · rw [if_neg hkl]; simp [Addr.add_lit]
          · rw [mslCut, if_neg hl] at hK
            have hml : m = l := by omega
            subst hml
            refine wp_pure (v := .slice (some ⟨c, off, none⟩) (h' - m) (m - m)) ?_ (hn s _ _ w (Sg.le.refl s) hs.heap (.sl false _ [] .unk _ _ [] rfl (by simp) (by simp) rfl (by simp) (fun ad had _ => by cases had; rfl) (by omega) (by omega) trivial) hK)
            simp [execOp, ho, ev, Instr.sliceAt, Instr.slice, run_underlying hu, hb, sizeT_run hz]
  · exact hk.elim
end Go.Abs
