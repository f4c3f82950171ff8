/- Functions: what a call says, out of what its body does; steps of the thought. No condition. -/
import Derived.Test.YtidmekdkfiljjaaGreatK18
namespace Go.Abs
open Go

inductive CRes where
  | t (n : Nat)
  | cell (n : Nat) (sz : Option Nat)

def cRes (P : Program) : ResultVar → Option CRes
  | .tmp t => some (.t t)
  | .cell a t => (szT P t).map (.cell a)

structure CFn where
  body : C
  res : List CRes

def cFn (P : Program) (f : FuncId) (g : Cfg) : Option CFn := do
  let fn ← P.funcs[f]?
  if callOK P f && fn.ntmps == g.N then do
    let c ← fn.body
    let body ← cCode P g c
    let res ← fn.results.toList.mapM (cRes P)
    pure { body, res }
  else none

def entry : List AV → Nat → Env
  | [], _ => []
  | a :: r, k => (k, a) :: entry r (k + 1)

/-- The results, as the call hands them back. -/
def evRes (e : Env) (h : AH) : List CRes → (List AV → Prop) → Prop
  | [], K => K []
  | .t n :: r, K => evRes e h r fun vs => K (e.get n :: vs)
  | .cell n sz :: r, K => match e.get n with
    | .ptr b off => ∃ cs, h.blk b = some cs ∧ evLoad sz (cs.drop off) fun v => evRes e h r fun vs => K (v :: vs)
    | .sptr cs => evLoad sz cs fun v => evRes e h r fun vs => K (v :: vs)
    | _ => False
def packed : List AV → AV
  | [v] => v
  | vs => .tup vs

/-- A value and a heap, seen otherwise. -/
def RGh (r : AV) (h : AH) (r' : AV) (h' : AH) : Prop :=
  ∀ (s : Sg) (w0 : World) (own : Nat → Prop) (w : World) (v : Value), HSim s h w0 own w → VRel s r v → ∃ s', s.le s' ∧ HSim s' h' w0 own w ∧ VRel s' r' v

def retQ (res : List CRes) (R : AV → AH → Prop) : Exit → Env → AH → Prop
  | .ret, e, h | .normal, e, h => evRes e h res fun vs => ∃ r' h', RGh (packed vs) h r' h' ∧ R r' h'
  | _, _, _ => False

theorem entry_rel {s : Sg} : ∀ {args : List AV} {vs : List Value} (k : Nat) (pre post : List Value), VRels s args vs → pre.length = k → ∀ t, VRel s ((entry args k).get t) ((pre ++ vs ++ post).toArray.getD t undef) := by
  intro args
  induction args with
  | nil => intro vs k pre post _ _ t; exact .undef _
  | cons a args ih =>
    intro vs k pre post hr hk t
    cases vs with
    | nil => simp [VRels] at hr
    | cons v vs =>
      simp only [entry, Env.get_cons]
      by_cases hkt : k = t
      · rw [if_pos hkt]
        subst hkt
        have : ((pre ++ v :: vs ++ post).toArray.getD k undef) = v := by
          rw [Array.getD_eq_getD_getElem?]
          subst hk
          simp
        rw [this]
        exact hr.2 0 a v rfl rfl
      · rw [if_neg hkt]
        have := ih (vs := vs) (k + 1) (pre ++ [v]) post ⟨by simpa using hr.1, fun j x u hx hu => hr.2 (j + 1) x u (by simpa using hx) (by simpa using hu)⟩ (by simp [hk]) t
        simpa using this

def resRun (tmps : Array Value) : ResultVar → Sem Value
  | .tmp t => pure (tmps.getD t undef)
  | .cell a t => do loadVar t (← asAddr (tmps.getD a undef))

theorem run_evRes {P : Program} {N : Nat} {s : Sg} {e : Env} {h : AH} {w0 : World} {own : Nat → Prop} {a : Act} {w : World} (hs : ASim N s e h w0 own a w) :
    ∀ (rs : List ResultVar) (cs : List CRes) (K : List AV → Prop), rs.mapM (cRes P) = some cs → evRes e h cs K →
      ∃ vs us, (rs.mapM (resRun a.tmps)).run P w = .ok us w ∧ VRels s vs us ∧ K vs := by
  intro rs
  induction rs with
  | nil => intro cs K hm hk; simp at hm; subst hm; exact ⟨[], [], rfl, .nil s, hk⟩
  | cons r rs ih =>
    intro cs K hm hk
    simp only [List.mapM_cons] at hm
    obtain ⟨c, hc, hm⟩ := bind_some hm
    obtain ⟨cs', hcs, hm⟩ := bind_some hm
    cases hm
    cases r with
    | tmp t =>
      cases hc
      obtain ⟨vs, us, h1, h2, h3⟩ := ih cs' _ hcs hk
      refine ⟨e.get t :: vs, a.tmps.getD t undef :: us, ?_, .cons (hs.rel t) h2, h3⟩
      simp only [List.mapM_cons, resRun, Sem.run_bind, Sem.run_pure, Result.andThen_ok, h1]
    | cell ad t =>
      obtain ⟨sz, hz, rfl⟩ := map_some hc
      have r := hs.rel ad
      simp only [evRes] at hk
      split at hk
      · rename_i b off hb
        rw [hb] at r
        obtain ⟨cells, hcells, hk⟩ := hk
        obtain ⟨c, ws, ev, hr, hcc⟩ := blk_cells (hs.heap.blk b cells hcells) r
        obtain ⟨v, z, hrun, hz', hkz⟩ := run_load_cells (P := P) hz hr hcc hk
        obtain ⟨vs, us, h1, h2, h3⟩ := ih cs' _ hcs hkz
        refine ⟨z :: vs, v :: us, ?_, .cons hz' h2, h3⟩
        simp only [List.mapM_cons, resRun, Sem.run_bind, ev, asAddr, Sem.run_pure, Result.andThen_ok, hrun, h1]
      · rename_i cells hb
        rw [hb] at r
        obtain ⟨adr, ws, ev, hspot, hr, hfx⟩ := r.sptr_inv
        obtain ⟨v, z, hrun, hz', hkz⟩ := run_load_cells (P := P) (w := w) hz hr (fun j u hu => by rw [add_eq hspot]; exact (hs.heap.fx _ _ _ (hfx j u hu)).1) hk
        obtain ⟨vs, us, h1, h2, h3⟩ := ih cs' _ hcs hkz
        refine ⟨z :: vs, v :: us, ?_, .cons hz' h2, h3⟩
        simp only [List.mapM_cons, resRun, Sem.run_bind, ev, asAddr, Sem.run_pure, Result.andThen_ok, hrun, h1]
      · exact hk.elim

/-- A call, out of its body. -/
theorem ACalls.of_awp {P : Program} {f : FuncId} {g : Cfg} {F : CFn} (hc : cFn P f g = some F) {args : List AV} (hn : args.length ≤ g.N) {h : AH} {R : AV → AH → Prop} (hb : AWP P g F.body (retQ F.res R) (entry args 0) h) : ACalls P f args h R := by
  unfold cFn at hc
  obtain ⟨fn, hf, hc⟩ := bind_some hc
  split at hc
  · rename_i hok
    simp only [Bool.and_eq_true, beq_iff_eq] at hok
    obtain ⟨code, hcode, hc⟩ := bind_some hc
    obtain ⟨body, hbody, hc⟩ := bind_some hc
    obtain ⟨res, hres, hc⟩ := bind_some hc
    cases hc
    refine ⟨hok.1, fun s vs w hv hs => ?_⟩
    refine calls_of_wp hf hcode ?_
    have hvl : vs.length ≤ g.N := by rw [hv.1]; exact hn
    have hsim : ASim g.N s (entry args 0) h w (ownOf s h) { tmps := vs.toArray ++ Array.replicate (fn.ntmps - vs.toArray.size) undef, defers := [] } w := by
      refine ⟨hs, rfl, by simp [hok.2]; omega, fun t => ?_⟩
      have := entry_rel (s := s) 0 [] (List.replicate (fn.ntmps - vs.length) undef) hv rfl t
      have e1 : vs.toArray ++ Array.replicate (fn.ntmps - vs.toArray.size) undef = ([] ++ vs ++ List.replicate (fn.ntmps - vs.length) undef).toArray := by apply Array.ext'; simp
      rw [e1]; exact this
    refine wp_mono (hb code hbody s w (ownOf s h) _ w hsim) fun ex a' w' ⟨s', e', h', l1, l2, l3⟩ => ?_
    have fin : (evRes e' h' res fun vs => ∃ r' h'', RGh (packed vs) h' r' h'' ∧ R r' h'') → a'.defers = [] ∧ ∃ v, (results fn a'.tmps).run P w' = .ok v w' ∧ ∃ s'' r u h'', s.le s'' ∧ HSim s'' h'' w (ownOf s h) w' ∧ Ending.returned v = .returned u ∧ VRel s'' r u ∧ R r h'' := by
      intro hr
      obtain ⟨ws, us, hrun, hrel, r', h'', hgh, hR⟩ := run_evRes (P := P) l2 fn.results.toList res _ hres hr
      have hpk : VRel s' (packed ws) (if hsz : us.toArray.size = 1 then us.toArray[0] else .tuple us.toArray) := by
        cases ws with
        | nil =>
          have : us = [] := List.eq_nil_of_length_eq_zero (by simpa using hrel.1)
          subst this
          exact .tup [] [] rfl (by simp)
        | cons x ws =>
          cases ws with
          | nil =>
            cases us with
            | nil => simp [VRels] at hrel
            | cons u us =>
              have : us = [] := List.eq_nil_of_length_eq_zero (by simpa using hrel.1)
              subst this
              exact hrel.2 0 x u rfl rfl
          | cons y ws =>
            have hl : us.toArray.size ≠ 1 := by have := hrel.1; simp at this ⊢; omega
            rw [dif_neg hl]
            exact .tup _ us hrel.1 hrel.2
      obtain ⟨s'', m1, m2, m3⟩ := hgh s' _ _ _ _ l2.heap hpk
      refine ⟨l2.defers, _, ?_, s'', r', _, h'', l1.trans m1, m2, rfl, m3, hR⟩
      have e2 : results fn a'.tmps = (do
          let vs ← fn.results.mapM (resRun a'.tmps)
          pure (if h : vs.size = 1 then vs[0] else .tuple vs)) := rfl
      rw [e2, Array.mapM_eq_mapM_toList]
      simp only [Sem.run_bind, Sem.run_map, hrun, Result.andThen_ok, Sem.run_pure]
    cases ex <;> first
      | exact fin l3
      | exact l3.elim
  · cases hc

theorem RCall.of_awp {P : Program} {f : FuncId} {g : Cfg} {F : CFn} (hc : cFn P f g = some F) {args : List AV} (hn : args.length ≤ g.N) {h : AH} {v : AV}
    (hb : ∀ h', AH.leB h h' → AWP P g F.body (retQ F.res fun r h'' => r = v ∧ h'' = h') (entry args 0) h') : RCall P f args h v :=
  fun h' hl => ACalls.of_awp hc hn (hb h' hl)

theorem ACalls.mono {P : Program} {f : FuncId} {args : List AV} {h : AH} {R R' : AV → AH → Prop} (hc : ACalls P f args h R) (hi : ∀ r h', R r h' → R' r h') : ACalls P f args h R' :=
  ⟨hc.1, fun s vs w hv hs => (hc.2 s vs w hv hs).mono fun _ _ ⟨s', r, v, h', a1, a2, a3, a4, a5⟩ => ⟨s', r, v, h', a1, a2, a3, a4, hi _ _ a5⟩⟩

/-- What the values of the arguments tell. -/
theorem ACalls.know {P : Program} {f : FuncId} {args : List AV} {h : AH} {R : AV → AH → Prop} {p : Prop} (hp : ∀ s vs, VRels s args vs → p) (hc : p → ACalls P f args h R) (hok : callOK P f = true) : ACalls P f args h R :=
  ⟨hok, fun s vs w hv hs => (hc (hp s vs hv)).2 s vs w hv hs⟩
theorem RCall.know {P : Program} {f : FuncId} {args : List AV} {h : AH} {v : AV} {p : Prop} (hp : ∀ s vs, VRels s args vs → p) (hc : p → RCall P f args h v) (hok : callOK P f = true) : RCall P f args h v :=
  fun h' hl => ACalls.know hp (fun hpp => hc hpp h' hl) hok

/-! ### Steps of the thought -/
/-- x says no more than y. -/
def AV.le (x y : AV) : Prop := ∀ s v, VRel s y v → VRel s x v
theorem AV.le.refl (x : AV) : AV.le x x := fun _ _ h => h
theorem AV.le.undef (x : AV) : AV.le .undef x := fun _ v _ => .undef v
theorem AV.le.unk {nl : Bool} {n : Nat} {cs : List AV} {tl : Tail} : AV.le (.sl nl n cs .unk) (.sl nl n cs tl) := fun _ _ h => h.unk
theorem AV.le.of_eq {x y : AV} (h : x = y) : AV.le x y := h ▸ AV.le.refl x

inductive EnvLe : Env → Env → Prop where
  | nil (e : Env) : EnvLe [] e
  | cons {t : Nat} {x : AV} {r e : Env} (h : AV.le x (e.get t)) (k : EnvLe r e) : EnvLe ((t, x) :: r) e
theorem EnvLe.get {r e : Env} (h : EnvLe r e) (t : Nat) : AV.le (r.get t) (e.get t) := by
  induction h with
  | nil e => exact AV.le.undef _
  | cons hx _ ih =>
    rw [Env.get_cons]
    split
    · rename_i htt; subst htt; exact hx
    · exact ih

theorem GStep.forget {e e' : Env} {h h' : AH} (he : EnvLe e' e) (hh : h'.le h) : GStep e h e' h' :=
  fun _ s _ _ _ _ k => ⟨s, Sg.le.refl s, k.heap.weaken hh, k.defers, k.size, fun t => he.get t _ _ (k.rel t)⟩
theorem GStep.refl (e : Env) (h : AH) : GStep e h e h := fun _ s _ _ _ _ k => ⟨s, Sg.le.refl s, k⟩
theorem GStep.trans {e e' e'' : Env} {h h' h'' : AH} (a : GStep e h e' h') (b : GStep e' h' e'' h'') : GStep e h e'' h'' := fun N s w0 own ac w k => by
  obtain ⟨s1, l1, k1⟩ := a N s w0 own ac w k
  obtain ⟨s2, l2, k2⟩ := b N s1 w0 own ac w k1
  exact ⟨s2, l1.trans l2, k2⟩
theorem RGh.refl (r : AV) (h : AH) : RGh r h r h := fun s _ _ _ _ k kv => ⟨s, Sg.le.refl s, k, kv⟩
theorem RGh.forget {r r' : AV} {h h' : AH} (hr : AV.le r' r) (hh : h'.le h) : RGh r h r' h' := fun s _ _ _ _ k kv => ⟨s, Sg.le.refl s, k.weaken hh, hr _ _ kv⟩
theorem RGh.trans {r r' r'' : AV} {h h' h'' : AH} (a : RGh r h r' h') (b : RGh r' h' r'' h'') : RGh r h r'' h'' := fun s w0 own w v k kv => by
  obtain ⟨s1, l1, k1, v1⟩ := a s w0 own w v k kv
  obtain ⟨s2, l2, k2, v2⟩ := b s1 w0 own w v k1 v1
  exact ⟨s2, l1.trans l2, k2, v2⟩

theorem AH.le_put {h h' : AH} {b : Nat} {cs : List AV} (hl : h'.le h) (hb : h'.blk b = none) : h'.le (h.put b cs) :=
  ⟨fun x c e => by
    show (if x = b then _ else _) = _
    rw [if_neg (fun hx => by subst hx; rw [hb] at e; cases e)]; exact hl.blk x c e, hl.tok, hl.mp⟩
theorem AH.le_setTok {h h' : AH} {t n size : Nat} (hl : h'.le h) (hb : h'.tok t = none) : h'.le (h.setTok t n size) :=
  ⟨hl.blk, fun x c e => by
    show (if x = t then _ else _) = _
    rw [if_neg (fun hx => by subst hx; rw [hb] at e; cases e)]; exact hl.tok x c e, hl.mp⟩
theorem AH.le_putM {h h' : AH} {b : Nat} {es : List (AV × AV)} (hl : h'.le h) (hb : h'.mp b = none) : h'.le (h.putM b es) :=
  ⟨hl.blk, hl.tok, fun x c e => by
    show (if x = b then _ else _) = _
    rw [if_neg (fun hx => by subst hx; rw [hb] at e; cases e)]; exact hl.mp x c e⟩
theorem AH.none_of_le {h h' : AH} (hl : h'.le h) {b : Nat} (hb : h.blk b = none) : h'.blk b = none := by
  cases hc : h'.blk b with
  | none => rfl
  | some c => rw [hl.blk b c hc] at hb; cases hb
theorem AH.tnone_of_le {h h' : AH} (hl : h'.le h) {b : Nat} (hb : h.tok b = none) : h'.tok b = none := by
  cases hc : h'.tok b with
  | none => rfl
  | some c => rw [hl.tok b c hc] at hb; cases hb

theorem AH.mnone_of_le {h h' : AH} (hl : h'.le h) {b : Nat} (hb : h.mp b = none) : h'.mp b = none := by
  cases hc : h'.mp b with
  | none => rfl
  | some c => rw [hl.mp b c hc] at hb; cases hb

theorem RGh.fix {b n : Nat} {cap : Option Nat} {h : AH} {cs : List AV} (hb : h.blk b = some cs) (size : Nat) : RGh (.msl b 0 n cap) h (.sl false n (cs.take (n * size)) .unk) (h.del b) := by
  intro s w0 own w v k kv
  obtain ⟨c, kk, ev, hc, hnk, hmax, hq⟩ := kv.msl_inv
  obtain ⟨s', c', vs, l1, l2, a1, hr, hf⟩ := k.fix hb
  rw [hc] at a1; cases a1
  have hrt := hr.take (n * size)
  refine ⟨s', l1, l2, ?_⟩
  rw [ev]
  exact .sl false n _ .unk (some ⟨c, 0, none⟩) kk (vs.take (n * size)) hrt.1 hrt.2 (fun j v hv => ⟨_, rfl, rfl, by
    rw [List.getElem?_take] at hv
    split at hv
    · simpa using hf j v hv
    · cases hv⟩) rfl (by simp) (by simp) hnk hmax trivial

/-- The same at a slot: the other slots must not point into it. -/
theorem GStep.fix {e e' : Env} {h : AH} {t b n : Nat} {cap : Option Nat} {cs : List AV} (ht : e.get t = .msl b 0 n cap) (hb : h.blk b = some cs) (size : Nat) (he : EnvLe e' e) :
    GStep e h ((t, .sl false n (cs.take (n * size)) .unk) :: e') (h.del b) := by
  intro N s w0 own a w k
  have kv := k.rel t
  rw [ht] at kv
  obtain ⟨s', l1, l2, l3⟩ := RGh.fix (cap := cap) hb size s w0 own w _ k.heap kv
  refine ⟨s', l1, l2, k.defers, k.size, fun u => ?_⟩
  rw [Env.get_cons]
  split
  · rename_i htu; subst htu; exact l3
  · exact he.get u _ _ ((k.rel u).mono l1)
end Go.Abs
