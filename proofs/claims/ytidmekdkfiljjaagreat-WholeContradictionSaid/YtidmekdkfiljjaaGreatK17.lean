/- Soundness of a region, in the text's order and in any order. No condition. -/
import Derived.Test.YtidmekdkfiljjaaGreatK16
import Derived.RegionTactic
namespace Go.Abs
open Go

/-! ### Regions, compiled -/
def IOp.reads (o : IOp) : List Nat := o.op.slots ++ (match o.guard with | some (g, _) => [g] | none => [])
def apartA (x y : IOp) : Bool :=
  (match x.dst with
   | some d => !y.reads.contains d && y.dst != some d
   | none => true) &&
  (match y.dst with
   | some d => !x.reads.contains d
   | none => true)

/-- Whether every order that the edges of a region allow comes to the same. -/
def drawOK (ops : Array Oper) (ios : List IOp) : Bool :=
  let B := Region.before ops
  (List.range ops.size).all fun q =>
    match ops[q]?, ios[q]? with
    | some o, some y =>
      (o.after.toList.all fun e => !Region.binds .any e || e.on < q) &&
      (List.range ops.size).all (fun p => !(B.getD q 0).testBit p || o.after.toList.any fun e => Region.binds .any e && (e.on == p || (B.getD e.on 0).testBit p)) &&
      (y.cls == 0 || y.cls == 1 && y.op.light || (List.range q).all fun p => (B.getD q 0).testBit p || (match ios[p]? with | some x => x.op.calm | none => false)) &&
      (List.range q).all fun p => (B.getD q 0).testBit p || (match ios[p]? with | some x => x.cls == 0 && apartA x y | none => false)
    | _, _ => false

def AOp.isAlloc : AOp → Bool
  | .alloc _ => true
  | _ => false
/-- Both make something new, the second one a block. -/
def swapA (x y : IOp) : Bool := x.cls == 1 && x.op.light && x.guard.isNone && y.cls == 1 && y.op.isAlloc && y.guard.isNone && apartA x y
/-- Whether operation q may come up ahead of operation p, or waits for it. -/
def relOK (B : Array Nat) (ios : List IOp) (p q : Nat) : Bool :=
  (B.getD q 0).testBit p || (match ios[p]?, ios[q]? with | some x, some y => (x.cls == 0 && apartA x y && (y.cls == 0 || y.cls == 1 && y.op.light || calmFor x.op y.op)) || swapA x y | _, _ => false)
def pairOK (R : Nat → Nat → Bool) : List Nat → Bool
  | [] => true
  | a :: l => l.all (R a) && pairOK R l
/-- Another order: first what turns nothing and waits only for such. -/
def early (B : Array Nat) (ios : List IOp) (n q : Nat) : Bool :=
  let c := fun i => match ios[i]? with | some y => y.cls == 0 | none => false
  c q && (List.range n).all fun p => !(B.getD q 0).testBit p || c p
def ordOf (B : Array Nat) (ios : List IOp) (n : Nat) : List Nat := (List.range n).filter (early B ios n) ++ (List.range n).filter fun q => !early B ios n q
def drawOK2 (ops : Array Oper) (ios : List IOp) (ord : List Nat) : Bool :=
  let B := Region.before ops
  ((List.range ops.size).all fun q =>
    match ops[q]?, ios[q]? with
    | some o, some _ =>
      (o.after.toList.all fun e => !Region.binds .any e || e.on < q) &&
      (List.range ops.size).all (fun p => !(B.getD q 0).testBit p || o.after.toList.any fun e => Region.binds .any e && (e.on == p || (B.getD e.on 0).testBit p))
    | _, _ => false) && pairOK (relOK B ios) ord

/-- A new block and the store that fills it, taken together. -/
def pullF (d n : Nat) : List IOp → Option (List IOp)
  | [] => none
  | p :: r =>
    match p with
    | ⟨some d', .storeF m (.t d'') x, none, 2⟩ => if d' = d ∧ d'' = d ∧ m = n ∧ d ∉ x.slots then some (⟨some d, .boxF (some n) x, none, 0⟩ :: r) else none
    | p => if p.cls = 0 ∧ d ∉ p.reads ∧ p.dst ≠ some d then (pullF d n r).map (p :: ·) else none
def fuse1 (o : IOp) (r : List IOp) : List IOp :=
  match o with
  | ⟨some d, .alloc z, none, 1⟩ => (pullF d z.length r).getD (o :: r)
  | o => o :: r
def fuse : List IOp → List IOp
  | [] => []
  | o :: r => fuse1 o (fuse r)

def cReg0 (P : Program) (g : Cfg) (ops : Array Oper) (draw : Bool) : Option (List IOp) := do
  let ios ← ops.toList.mapM (cOper P g ops)
  if draw && !drawOK ops ios then
    let ord := ordOf (Region.before ops) ios ops.size
    if drawOK2 ops ios ord then some (ord.filterMap (ios[·]?)) else none
  else some ios

def cReg (P : Program) (g : Cfg) (ops : Array Oper) (draw : Bool) : Option (List IOp) := (cReg0 P g ops draw).map fuse

def cCode (P : Program) (g : Cfg) : Code → Option C
  | .skip => some .skip
  | .region _ ops draw => (cReg P g ops draw).map .reg
  | .seq a b => do
    let a ← cCode P g a
    let b ← cCode P g b
    pure (.seq a b)
  | .cond c a b => do
    let c ← cArg c
    let a ← cCode P g a
    let b ← cCode P g b
    pure (.cond c a b)
  | .block id c => (cCode P g c).map (.block id)
  | .loop c => (cCode P g c).map .loop
  | .exit id => some (.exit id)
  | .ret => some .ret
  | _ => some .bad

/-! ### One operation of a region -/
def FixInv (P : Program) (g : Cfg) (o : Oper) (io : IOp) : Prop :=
  ∃ d n x, cOp P o.op = some (.store n (.t d) x) ∧ o.dst = none ∧ o.guard = none ∧ d < g.N ∧ io = { dst := some d, op := .storeF n (.t d) x, guard := none, cls := 2 }
theorem fixOf_inv {P : Program} {g : Cfg} {o : Oper} {d n : Nat} {x : Arg} (h : fixOf P g o = some (d, n, x)) : cOp P o.op = some (.store n (.t d) x) ∧ o.dst = none ∧ o.guard = none ∧ d < g.N := by
  unfold fixOf at h
  split at h
  · rename_i n' d' x' h1 h2 h3
    split at h
    · rename_i hb
      cases h
      simp only [Bool.and_eq_true, decide_eq_true_eq] at hb
      exact ⟨h1, h3, h2, hb.2⟩
    · cases h
  · cases h
theorem cOper_inv {P : Program} {g : Cfg} {ops : Array Oper} {o : Oper} {io : IOp} (h : cOper P g ops o = some io) : FixInv P g o io ∨
    (io.op = asM g o.dst ((cOp P o.op).getD .bad) ∧ io.dst = o.dst ∧ o.dst.all (· < g.N) = true ∧ ((o.guard = none ∧ io.guard = none) ∨ ∃ j want d, o.guard = some (j, want) ∧ (ops[j]?).bind (·.dst) = some d ∧ d < g.N ∧ io.guard = some (d, want))) := by
  unfold cOper at h
  split at h
  · rename_i d n x hf
    cases h
    obtain ⟨h1, h2, h3, h4⟩ := fixOf_inv hf
    exact .inl ⟨d, n, x, h1, h2, h3, h4, rfl⟩
  right
  simp only at h
  split at h
  · cases h
  · rename_i hd
    have hd' : o.dst.all (· < g.N) = true := by
      cases hq : o.dst.all (· < g.N) with
      | true => rfl
      | false => exact absurd hq hd
    split at h
    · rename_i hgd
      cases h
      exact ⟨rfl, rfl, hd', .inl ⟨hgd, rfl⟩⟩
    · rename_i j want hgd
      obtain ⟨d, hdd, h⟩ := bind_some h
      split at h
      · rename_i hlt
        cases h
        exact ⟨rfl, rfl, hd', .inr ⟨j, want, d, hgd, hdd, hlt, rfl⟩⟩
      · cases h

def EnvEq (e e' : Env) : Prop := ∀ t, e.get t = e'.get t

/-- What a guard's slot tells: a test's answer; or that the test was not made. -/
def gv : AV → Option (Option Bool)
  | .bool b => some (some b)
  | .tup [] => some none
  | _ => none
/-- One operation, its guard decided. -/
def evStep (P : Program) (o : IOp) (e : Env) (h : AH) (K : Env → AH → Prop) : Prop :=
  match o.guard with
  | none => evOp P o e h fun v h' => K (e.put o.dst v) h'
  | some (g, want) => ∃ b, gv (e.get g) = some b ∧ (if b = some want then evOp P o e h (fun v h' => K (e.put o.dst v) h') else K (e.put o.dst (.tup [])) h)
def evSteps (P : Program) (K : Env → AH → Prop) : List IOp → Env → AH → Prop
  | [], e, h => K e h
  | o :: r, e, h => evStep P o e h (evSteps P K r)

theorem evStep_none {P : Program} {o : IOp} {e : Env} {h : AH} {K : Env → AH → Prop} (hg : o.guard = none) : evStep P o e h K = evOp P o e h fun v h' => K (e.put o.dst v) h' := by unfold evStep; rw [hg]
theorem evStep_some {P : Program} {o : IOp} {e : Env} {h : AH} {K : Env → AH → Prop} {g : Nat} {want : Bool} (hg : o.guard = some (g, want)) :
    evStep P o e h K = ∃ b, gv (e.get g) = some b ∧ (if b = some want then evOp P o e h (fun v h' => K (e.put o.dst v) h') else K (e.put o.dst (.tup [])) h) := by unfold evStep; rw [hg]

def EnvOK (K : Env → AH → Prop) : Prop := ∀ e e' h, EnvEq e e' → K e h → K e' h

theorem evOp_imp {P : Program} {o : IOp} {e e' : Env} {h : AH} (ha : Agree o.op.slots e e') {K K' : AV → AH → Prop} (hi : ∀ v h', K v h' → K' v h') (hk : evOp P o e h K) : evOp P o e' h K' := by
  unfold evOp at *
  split
  · rename_i hc
    rw [if_pos hc] at hk
    obtain ⟨v, h1, h2⟩ := evF_det P o.op e h _ hk
    exact evF_agree ha (AH.leB.refl h) (h2 _ (hi _ _ h1))
  · rename_i hc
    rw [if_neg hc] at hk
    exact evS_imp ha hi hk

theorem EnvEq.put {e e' : Env} (h : EnvEq e e') (d : Option Nat) (v : AV) : EnvEq (e.put d v) (e'.put d v) := by
  cases d with
  | none => exact h
  | some d => intro t; simp only [Env.put, Env.get_cons]; split <;> first | rfl | exact h t

theorem evStep_imp {P : Program} {o : IOp} {e e' : Env} {h : AH} {K K' : Env → AH → Prop} (he : EnvEq e e') (hi : ∀ e e' h, EnvEq e e' → K e h → K' e' h) (hk : evStep P o e h K) : evStep P o e' h K' := by
  unfold evStep at *
  have ha : Agree o.op.slots e e' := fun t _ => (he t).symm
  split
  · rename_i hg
    rw [hg] at hk
    exact evOp_imp ha (fun v h' hv => hi _ _ _ (he.put o.dst v) hv) hk
  · rename_i g want hg
    rw [hg] at hk
    obtain ⟨b, hb, hk⟩ := hk
    refine ⟨b, by rw [← he g]; exact hb, ?_⟩
    split
    · rename_i hbw
      rw [if_pos hbw] at hk
      exact evOp_imp ha (fun v h' hv => hi _ _ _ (he.put o.dst v) hv) hk
    · rename_i hbw
      rw [if_neg hbw] at hk
      exact hi _ _ _ (he.put o.dst (.tup [])) hk

theorem evSteps_env {P : Program} {K : Env → AH → Prop} (hK : EnvOK K) : ∀ (l : List IOp) (e e' : Env) (h : AH), EnvEq e e' → evSteps P K l e h → evSteps P K l e' h := by
  intro l
  induction l with
  | nil => intro e e' h he hk; exact hK e e' h he hk
  | cons o l ih => intro e e' h he hk; exact evStep_imp he (fun e e' h he hk => ih e e' h he hk) hk

theorem evSteps_of {P : Program} {K : Env → AH → Prop} (hK : EnvOK K) : ∀ (l : List IOp) (e : Env) (h : AH), evOps P K l e h → evSteps P K l e h := by
  intro l
  induction l with
  | nil => intro e h hk; exact hk
  | cons o l ih =>
    intro e h hk
    unfold evOps at hk
    unfold evSteps evStep
    split
    · rename_i hg
      rw [hg] at hk
      exact evOp_imp (fun _ _ => rfl) (fun v h' hv => ih _ _ hv) hk
    · rename_i g want hg
      rw [hg] at hk
      simp only at hk
      split at hk
      · rename_i b hb
        refine ⟨some b, by rw [hb]; rfl, ?_⟩
        have heq : EnvEq ((g, AV.bool b) :: e) e := fun t => by
          rw [Env.get_cons]; split
          · rename_i hgt; subst hgt; exact hb.symm
          · rfl
        split
        · rename_i hbw
          have hbw := Option.some.inj hbw
          subst hbw
          have := hk.1 rfl
          exact evOp_imp (fun t _ => (heq t).symm) (fun v h' hv => evSteps_env hK l _ _ _ (heq.put o.dst v) (ih _ _ hv)) this
        · rename_i hbw
          have hbw : ¬ b = want := fun hh => hbw (by rw [hh])
          have hb' : b = !want := by cases b <;> cases want <;> simp_all
          have := hk.2 hb'
          subst hb'
          exact evSteps_env hK l _ _ _ (heq.put o.dst (.tup [])) (ih _ _ this)
      · rename_i hb
        refine ⟨none, by rw [hb]; rfl, ?_⟩
        rw [if_neg (by simp)]
        exact ih _ _ hk
      · exact hk.elim

theorem apartA_spec {x y : IOp} (h : apartA x y = true) : (∀ d, x.dst = some d → d ∉ y.reads ∧ y.dst ≠ some d) ∧ (∀ d, y.dst = some d → d ∉ x.reads) := by
  unfold apartA at h
  simp only [Bool.and_eq_true] at h
  refine ⟨fun d hd => ?_, fun d hd => ?_⟩
  · have := h.1; rw [hd] at this; simpa using this
  · have := h.2; rw [hd] at this; simpa using this

theorem put_agree {l : List Nat} {d : Option Nat} {v : AV} {e : Env} (h : ∀ x, d = some x → x ∉ l) : Agree l e (e.put d v) := by
  cases d with
  | none => exact fun _ _ => rfl
  | some d => intro t ht; simp only [Env.put, Env.get_cons]; rw [if_neg (fun (hdt : d = t) => h d rfl (by rw [hdt]; exact ht))]
theorem Agree.symm {l : List Nat} {e e' : Env} (h : Agree l e e') : Agree l e' e := fun t ht => (h t ht).symm

theorem put_comm {e : Env} {d d' : Option Nat} (h : ∀ x, d = some x → d' ≠ some x) (v u : AV) : EnvEq ((e.put d v).put d' u) ((e.put d' u).put d v) := by
  cases d with
  | none => exact fun _ => rfl
  | some d =>
    cases d' with
    | none => exact fun _ => rfl
    | some d' =>
      intro t
      simp only [Env.put, Env.get_cons]
      have : d ≠ d' := fun hd => h d rfl (by rw [hd])
      by_cases h1 : d' = t
      · have : ¬ d = t := fun h2 => this (h2.trans h1.symm)
        simp [h1, this]
      · by_cases h2 : d = t <;> simp [h1, h2]

/-- An operation may be taken before one that turns nothing and is apart from it. -/
theorem evStep_swap {P : Program} {p x : IOp} {K : Env → AH → Prop} (hK : EnvOK K) (hp : p.cls = 0) (hx : (x.cls = 0 ∨ (x.cls = 1 ∧ x.op.light = true)) ∨ calmFor p.op x.op = true) (hap : apartA p x = true) {e : Env} {h : AH}
    (hk : evStep P p e h (fun e1 h1 => evStep P x e1 h1 K)) : evStep P x e h (fun e1 h1 => evStep P p e1 h1 K) := by
  obtain ⟨a1, a2⟩ := apartA_spec hap
  have xop : ∀ v, Agree x.op.slots (e.put p.dst v) e := fun v => (put_agree (fun d hd hm => (a1 d hd).1 (List.mem_append_left _ hm))).symm
  have pop : ∀ v, Agree p.op.slots e (e.put x.dst v) := fun v => put_agree (fun d hd hm => (a2 d hd) (List.mem_append_left _ hm))
  have pg : ∀ v g want, p.guard = some (g, want) → Env.get (e.put x.dst v) g = e.get g := fun v g want hg => by
    have : g ∈ p.reads := by unfold IOp.reads; rw [hg]; simp
    exact put_agree (l := p.reads) (fun d hd hm => (a2 d hd) hm) g this
  have xg : ∀ v g want, x.guard = some (g, want) → Env.get (e.put p.dst v) g = e.get g := fun v g want hg => by
    have : g ∈ x.reads := by unfold IOp.reads; rw [hg]; simp
    exact put_agree (l := x.reads) (fun d hd hm => (a1 d hd).1 hm) g this
  have hcomm : ∀ v u, EnvEq ((e.put p.dst v).put x.dst u) ((e.put x.dst u).put p.dst v) := fun v u => put_comm (fun d hd => (a1 d hd).2) v u
  -- p's one answer v; then x from where p was not yet carried out
  have main : ∀ v, (∀ e' h', (∀ t ∈ p.op.slots, e'.get t = e.get t) → (∀ g want, p.guard = some (g, want) → e'.get g = e.get g) → (AH.leB h h' ∨ p.op.calm = true ∨ (p.op.mapOnly = true ∧ h'.mp = h.mp)) → ∀ K' : Env → AH → Prop, K' (e'.put p.dst v) h' → evStep P p e' h' K') →
      evStep P x (e.put p.dst v) h K → evStep P x e h (fun e1 h1 => evStep P p e1 h1 K) := by
    intro v hpv hxk
    have fin : ∀ u h', (AH.leB h h' ∨ p.op.calm = true ∨ (p.op.mapOnly = true ∧ h'.mp = h.mp)) → K ((e.put p.dst v).put x.dst u) h' → evStep P p (e.put x.dst u) h' K := fun u h' hl hk' =>
      hpv _ h' (pop u) (fun g want hg => pg u g want hg) hl K (hK _ _ _ (hcomm v u) hk')
    have opx : evOp P x (e.put p.dst v) h (fun u h' => K ((e.put p.dst v).put x.dst u) h') → evOp P x e h (fun u h' => evStep P p (e.put x.dst u) h' K) := by
      intro ho
      unfold evOp at ho ⊢
      by_cases hx0 : x.cls = 0
      · rw [if_pos hx0] at ho ⊢
        obtain ⟨u, h1, h2⟩ := evF_det P x.op _ h _ ho
        exact evF_agree (xop v) (AH.leB.refl h) (h2 _ (fin u h (.inl (AH.leB.refl h)) h1))
      · rw [if_neg hx0] at ho ⊢
        rcases hx with (hx | ⟨hx, hlt⟩) | hx
        · exact absurd hx hx0
        · exact evS_imp (fun _ _ => rfl) (fun u h' ⟨hl, hk'⟩ => fin u h' (.inl hl) hk') (evS_agree hlt (xop v) ho)
        · unfold calmFor at hx
          rw [Bool.or_eq_true, Bool.and_eq_true] at hx
          rcases hx with hx | ⟨hx, hxb⟩
          · exact evS_imp (xop v) (fun u h' hk' => fin u h' (.inr (.inl hx)) hk') ho
          · exact evS_imp (xop v) (fun u h' ⟨hm, hk'⟩ => fin u h' (.inr (.inr ⟨hx, hm⟩)) hk') (evS_blks hxb ho)
    unfold evStep at hxk
    split at hxk
    · rename_i hg
      rw [evStep_none hg]; exact opx hxk
    · rename_i g want hg
      obtain ⟨b, hb, hxk⟩ := hxk
      rw [evStep_some hg]
      refine ⟨b, by rw [← xg v g want hg]; exact hb, ?_⟩
      split
      · rename_i hbw; rw [if_pos hbw] at hxk; exact opx hxk
      · rename_i hbw; rw [if_neg hbw] at hxk; exact fin (.tup []) h (.inl (AH.leB.refl h)) hxk
  unfold evStep at hk
  split at hk
  · rename_i hg
    unfold evOp at hk
    rw [if_pos hp] at hk
    obtain ⟨v, h1, h2⟩ := evF_det P p.op e h _ hk
    refine main v (fun e' h' hs _ hl K' hk' => ?_) h1
    unfold evStep
    rw [hg]
    simp only
    unfold evOp
    rw [if_pos hp]
    exact evF_either (e := e) (e' := e') hs hl (h2 (fun u => K' (e'.put p.dst u) h') hk')
  · rename_i g want hg
    obtain ⟨b, hb, hk⟩ := hk
    split at hk
    · rename_i hbw
      unfold evOp at hk
      rw [if_pos hp] at hk
      obtain ⟨v, h1, h2⟩ := evF_det P p.op e h _ hk
      refine main v (fun e' h' hs hgg hl K' hk' => ?_) h1
      unfold evStep
      rw [hg]
      refine ⟨b, by rw [hgg g want hg]; exact hb, ?_⟩
      rw [if_pos hbw]
      unfold evOp
      rw [if_pos hp]
      exact evF_either (e := e) (e' := e') hs hl (h2 (fun u => K' (e'.put p.dst u) h') hk')
    · rename_i hbw
      refine main (.tup []) (fun e' h' hs hgg hl K' hk' => ?_) hk
      unfold evStep
      rw [hg]
      refine ⟨b, by rw [hgg g want hg]; exact hb, ?_⟩
      rw [if_neg hbw]
      exact hk'

/-- A new block may be made ahead. -/
theorem evStep_swapA {P : Program} {p x : IOp} {K : Env → AH → Prop} (hK : EnvOK K) (hs : swapA p x = true) {e : Env} {h : AH}
    (hk : evStep P p e h (fun e1 h1 => evStep P x e1 h1 K)) : evStep P x e h (fun e1 h1 => evStep P p e1 h1 K) := by
  unfold swapA at hs
  simp only [Bool.and_eq_true, beq_iff_eq, Option.isNone_iff_eq_none] at hs
  obtain ⟨⟨⟨⟨⟨⟨p1, plt⟩, pg⟩, x1⟩, xa⟩, xg⟩, hap⟩ := hs
  obtain ⟨a1, a2⟩ := apartA_spec hap
  cases hxo : x.op <;> rw [hxo] at xa <;> try (simp [AOp.isAlloc] at xa; done)
  rename_i z
  have p0 : ¬ p.cls = 0 := by omega
  have x0 : ¬ x.cls = 0 := by omega
  rw [evStep_none pg] at hk
  rw [evStep_none xg]
  unfold evOp at hk ⊢
  rw [if_neg p0] at hk
  rw [if_neg x0, hxo]
  intro b hb
  show evStep P p (e.put x.dst (.ptr b 0)) (h.put b z) K
  rw [evStep_none pg]
  unfold evOp
  rw [if_neg p0]
  refine evS_ahead plt (e := e) (put_agree (fun d hd hm => (a2 d hd) (List.mem_append_left _ hm))) hb (evS_imp (fun _ _ => rfl) (fun v h1 hv hb1 => ?_) hk)
  rw [evStep_none xg] at hv
  unfold evOp at hv
  rw [if_neg x0, hxo] at hv
  exact hK _ _ _ (put_comm (fun d hd => (a1 d hd).2) v (.ptr b 0)) (hv b hb1)

/-- The operation that comes up is taken first. -/
theorem evSteps_pull {P : Program} {K : Env → AH → Prop} (hK : EnvOK K) {x : IOp} (L2 : List IOp) : ∀ (L1 : List IOp) (e : Env) (h : AH), (∀ p ∈ L1, (p.cls = 0 ∧ apartA p x = true ∧ ((x.cls = 0 ∨ (x.cls = 1 ∧ x.op.light = true)) ∨ calmFor p.op x.op = true)) ∨ swapA p x = true) →
    evSteps P K (L1 ++ x :: L2) e h → evStep P x e h (evSteps P K (L1 ++ L2)) := by
  intro L1
  induction L1 with
  | nil => intro e h _ hk; exact hk
  | cons p L1 ih =>
    intro e h hL hk
    have hst : evStep P p e h (fun e1 h1 => evStep P x e1 h1 (evSteps P K (L1 ++ L2))) := evStep_imp (fun _ => rfl) (fun e e' h he hh => by
      have := ih e h (fun q hq => hL q (by simp [hq])) hh
      exact evStep_imp he (fun e e' h he hh => evSteps_env hK _ e e' h he hh) this) hk
    rcases hL p (by simp) with ⟨hp, hap, hx⟩ | hsw
    · exact evStep_swap (K := evSteps P K (L1 ++ L2)) (fun e e' h he hh => evSteps_env hK _ e e' h he hh) hp hx hap hst
    · exact evStep_swapA (K := evSteps P K (L1 ++ L2)) (fun e e' h he hh => evSteps_env hK _ e e' h he hh) hsw hst

/-! ### Fused operations -/
theorem pullF_ok {P : Program} {K : Env → AH → Prop} (hK : EnvOK K) {d : Nat} {z : List AV} : ∀ (r r' : List IOp), pullF d z.length r = some r' → ∀ (e : Env) (h : AH), evSteps P K r' e h → ∀ b, h.blk b = none → evSteps P K r (e.put (some d) (.ptr b 0)) (h.put b z) := by
  intro r
  induction r with
  | nil => intro r' h; cases h
  | cons p r ih =>
    intro r' hp e h hk b hb
    have hlb : AH.leB h (h.put b z) := AH.leB_put hb
    unfold pullF at hp
    split at hp
    · rename_i d' m d'' x
      split at hp
      · rename_i hc
        obtain ⟨rfl, rfl, rfl, hx⟩ := hc
        cases hp
        have hag : Agree x.slots e (e.put (some d'') (.ptr b 0)) := put_agree (fun y hy hm => by cases hy; exact hx hm)
        have hk1 : lenOK (some z.length) (x.ev e).cells = true ∧ allOne (x.ev e).cells = true ∧ evSteps P K r (e.put (some d'') (.sptr (x.ev e).cells)) h := hk
        obtain ⟨k1, k2, k3⟩ := hk1
        have k1 : (x.ev e).cells.length = z.length := by simpa [lenOK] using k1
        show evStep P _ _ _ _
        rw [evStep_none rfl]
        unfold evOp
        rw [if_neg (by simp)]
        simp only [evS]
        have e0 : (Arg.t d'').ev (e.put (some d'') (.ptr b 0)) = .ptr b 0 := by simp [Arg.ev, Env.put, Env.get_cons]
        rw [e0]
        simp only
        have e1 : x.ev (e.put (some d'') (.ptr b 0)) = x.ev e := Arg.ev_agree hag
        have e2 : (h.put b z).del b = h := by
          simp only [AH.put, AH.del]
          congr 1
          funext y
          split
          · rename_i hy; subst hy; exact hb.symm
          · rfl
        rw [e1, e2]
        refine ⟨z, by simp [AH.put], rfl, k1, k2, evSteps_env hK _ _ _ _ (fun t => ?_) k3⟩
        simp only [Env.put, Env.get_cons]
        split <;> rfl
      · cases hp
    · split at hp
      · rename_i hc
        obtain ⟨c1, c2, c3⟩ := hc
        obtain ⟨r0, hr0, rfl⟩ := map_some hp
        have hag : Agree p.op.slots e (e.put (some d) (.ptr b 0)) := put_agree (fun y hy hm => by cases hy; exact c2 (List.mem_append_left _ hm))
        have fin : ∀ v, evSteps P K r0 (e.put p.dst v) h → evSteps P K r ((e.put (some d) (.ptr b 0)).put p.dst v) (h.put b z) := fun v hv =>
          evSteps_env hK _ _ _ _ (put_comm (fun y hy hh => c3 (by rw [hy, hh])) v (.ptr b 0)) (ih r0 hr0 _ h hv b hb)
        have hop : evOp P p e h (fun v h' => evSteps P K r0 (e.put p.dst v) h') → evOp P p (e.put (some d) (.ptr b 0)) (h.put b z) (fun v h' => evSteps P K r ((e.put (some d) (.ptr b 0)).put p.dst v) h') := fun ho => by
          unfold evOp at ho ⊢
          rw [if_pos c1] at ho ⊢
          obtain ⟨v, v1, v2⟩ := evF_det P p.op e h _ ho
          exact evF_agree hag hlb (v2 _ (fin v v1))
        show evStep P p _ _ _
        have hk : evStep P p e h (evSteps P K r0) := hk
        unfold evStep at hk ⊢
        split
        · rename_i hg; rw [hg] at hk; exact hop hk
        · rename_i gs want hg
          rw [hg] at hk
          obtain ⟨q, q1, q2⟩ := hk
          have hgs : Env.get (e.put (some d) (.ptr b 0)) gs = e.get gs := put_agree (l := p.reads) (fun y hy hm => by cases hy; exact c2 hm) gs (by unfold IOp.reads; rw [hg]; simp)
          refine ⟨q, by rw [hgs]; exact q1, ?_⟩
          split
          · rename_i hq; rw [if_pos hq] at q2; exact hop q2
          · rename_i hq; rw [if_neg hq] at q2; exact fin _ q2
      · cases hp
theorem fuse_ok {P : Program} {K : Env → AH → Prop} (hK : EnvOK K) : ∀ (r : List IOp) (e : Env) (h : AH), evSteps P K (fuse r) e h → evSteps P K r e h := by
  intro r
  induction r with
  | nil => intro e h hk; exact hk
  | cons o r ih =>
    intro e h hk
    have base : evSteps P K (o :: fuse r) e h → evSteps P K (o :: r) e h := fun hk => evStep_imp (fun _ => rfl) (fun e e' h he hh => evSteps_env hK _ _ _ _ he (ih e h hh)) hk
    unfold fuse fuse1 at hk
    split at hk
    · rename_i d z
      cases hp : pullF d z.length (fuse r) with
      | none => rw [hp] at hk; exact base hk
      | some r' =>
        rw [hp] at hk
        have := pullF_ok hK _ _ hp e h hk
        refine base ?_
        show evStep P _ e h _
        rw [evStep_none rfl]
        unfold evOp
        rw [if_neg (by simp)]
        exact fun b hb => this b hb
    · exact base hk

/-! ### A compiled operation, at its place in the run -/
theorem yields_of {N : Nat} {s : Sg} {e : Env} {h : AH} {w0 : World} {own : Nat → Prop} {a : Act} {w : World} (hs : ASim N s e h w0 own a w) {ops : Array Oper} {j d : Nat} {b : Option Bool} (hd : (ops[j]?).bind (·.dst) = some d) (hlt : d < N) (hb : gv (e.get d) = some b) :
    yielded ops a.tmps j = b := by
  have r := hs.rel d
  unfold yielded
  rw [hd]
  have hlt' : d < a.tmps.size := by rw [hs.size]; exact hlt
  simp only [Option.bind_some]
  have hsome : a.tmps[d]? = some (a.tmps.getD d undef) := by simp [Array.getD, hlt']
  rw [hsome]
  generalize hx : e.get d = x at hb r
  generalize a.tmps.getD d undef = v at r
  unfold gv at hb
  split at hb
  · cases hb; cases r; rfl
  · cases hb
    cases r with
    | tup _ vs hlen _ => rfl
  · cases hb

theorem wpOp_of {P : Program} {g : Cfg} {ops : Array Oper} {Q : Exit → Act → World → Prop} {i : Nat} {o : Oper} {io : IOp} (ho : ops[i]? = some o) (hio : cOper P g ops o = some io) {s : Sg} {e : Env} {h : AH} {w0 : World} {own : Nat → Prop} {a : Act} {w : World}
    (hs : ASim g.N s e h w0 own a w) {K : Env → AH → Prop} (hk : evStep P io e h K) (next : Act → World → Prop)
    (hn : ∀ (s' : Sg) (e' : Env) (h' : AH) (a' : Act) (w' : World), s.le s' → ASim g.N s' e' h' w0 own a' w' → K e' h' → next a' w') : wpOp P ops Q i next a w := by
  rcases cOper_inv hio with ⟨d, n, x, c1, c2, c3, c4, rfl⟩ | ⟨h1, h2, h3, h4⟩
  · unfold wpOp
    simp only [ho]
    rw [evStep_none rfl] at hk
    unfold evOp at hk
    rw [if_neg (by simp)] at hk
    have : Region.wanted o (yielded ops a.tmps) = true := by simp [Region.wanted, c3]
    rw [if_pos this]
    exact .inl (storeF_wp c1 c2 hs c4 hk next Q (fun s' y h' a' w' l1 l2 l3 => hn s' _ h' a' w' l1 l2 l3))
  unfold wpOp
  simp only [ho]
  unfold evStep at hk
  have hd : io.dst.all (· < g.N) = true := by rw [h2]; exact h3
  have run : evOp P io e h (fun v h' => K (e.put io.dst v) h') → o.wp P a w next Q := fun hk =>
    evOp_wp h1 hs hk next Q (fun s' x v h' w' l1 l2 l3 l4 => by
      have := hs.put l1 l2 hd l3
      rw [h2] at this
      exact hn s' _ h' _ w' l1 this (by rw [← h2]; exact l4))
  rcases h4 with ⟨g1, g2⟩ | ⟨j, want, d, g1, g2, g3, g4⟩
  · rw [g2] at hk
    have : Region.wanted o (yielded ops a.tmps) = true := by simp [Region.wanted, g1]
    rw [if_pos this]
    exact .inl (run hk)
  · rw [g4] at hk
    obtain ⟨b, hb, hk⟩ := hk
    have hy := yields_of hs g2 g3 hb
    by_cases hbw : b = some want
    · have : Region.wanted o (yielded ops a.tmps) = true := by simp [Region.wanted, g1, hy, hbw]
      rw [if_pos this]
      rw [if_pos hbw] at hk
      exact .inl (run hk)
    · have : ¬ Region.wanted o (yielded ops a.tmps) = true := by simp [Region.wanted, g1, hy, hbw]
      rw [if_neg this]
      rw [if_neg hbw] at hk
      have := hs.put (Sg.le.refl s) hs.heap hd (VRel.tup (s := s) [] [] rfl (by simp))
      rw [h2] at this
      exact hn s _ h _ w (Sg.le.refl s) this (by rw [← h2]; exact hk)
end Go.Abs
