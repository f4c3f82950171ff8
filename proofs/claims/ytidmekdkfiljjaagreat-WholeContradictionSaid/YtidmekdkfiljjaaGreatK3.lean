/- The compilation of a function's code into the compact form: definitions, and what an abstract state says of a frame. No condition. -/
import Derived.Test.YtidmekdkfiljjaaGreatK2
namespace Go.Abs

/-! ### Compilation -/
def av1 : Value → Option AV
  | .int k n => if k.min ≤ n ∧ n ≤ k.max then some (.int k n) else none
  | .bool b => some (.bool b)
  | .string s => some (.str s)
  | .slice none 0 0 => some (.sl true 0 [] .full)
  | .pointer none => some .nilp
  | .nilFunc => some .nilfn
  | .map none => some .nilmap
  | _ => none
def avConst : Value → Option AV
  | .agg cs => (cs.toList.mapM av1).map .st
  | v => av1 v
def cArg : Operand → Option Arg
  | .tmp t => some (.t t)
  | .const v => (avConst v).map .c
  | .func f => some (.c (.fn f []))
  | .global _ => none

def sizeT (P : Program) (t : TypeId) : Option Nat := (P.info? t).map (·.size)
def aggT (P : Program) (t : TypeId) : Option Bool := (P.underlying t).map fun | .struct _ | .array _ _ => true | _ => false
def szT (P : Program) (t : TypeId) : Option (Option Nat) := do
  let a ← aggT P t
  let n ← sizeT P t
  pure (if a then some n else none)
def zeroT (P : Program) (t : TypeId) : Option (List AV) := do
  let i ← P.info? t
  let z ← i.zero
  let cs ← z.cells.toList.mapM av1
  if cs.length = i.size then some cs else none
def fieldT (P : Program) (s : TypeId) (f : Nat) : Option Field := do
  match ← P.underlying s with
  | .struct fs => fs[f]?
  | _ => none
def elemT (P : Program) (t : TypeId) : Option TypeId := do
  match ← P.underlying t with
  | .slice e => some e
  | _ => none

def cOpt (x : Option Operand) : Option (Option Arg) :=
  match x with
  | none => some none
  | some x => (cArg x).map some

def intFields (P : Program) : List Field → Nat → Bool
  | [], _ => true
  | f :: r, k => (f.name != "_") && (f.offset == k) && (match P.underlying f.type with | some (.int _) => true | _ => false) && intFields P r (k + 1)

def placesT (P : Program) : List Field → Option (List (Nat × Nat))
  | [] => some []
  | f :: r => do
    let n ← sizeT P f.type
    let r ← placesT P r
    pure ((f.offset, n) :: r)

def cParts (tot : Nat) (place : Nat → Option (Nat × Nat)) : List (Nat × Operand) → Option (List (Nat × Nat × Arg))
  | [] => some []
  | (i, x) :: r => do
    let (off, size) ← place i
    if tot < off + size then none
    let a ← cArg x
    let r ← cParts tot place r
    pure ((off, size, a) :: r)

def cEq (P : Program) (t : TypeId) (neg : Bool) (x y : Arg) (op : BinOp) : Option AOp := do
  match ← P.underlying t with
  | .int _ | .string => some (.bin op x y)
  | .bool => some (.eqv .bool neg 0 x y)
  | .slice _ => some (.eqv .slice neg 0 x y)
  | .func _ _ _ => some (.eqv .func neg 0 x y)
  | .pointer _ => some (.eqv .ptr neg 0 x y)
  | .struct fs => if intFields P fs.toList 0 && !P.stoodInHeld t && !P.eqGuardType P.depth t then some (.eqv .ints neg fs.size x y) else none
  | _ => none

def keyT (P : Program) (t : TypeId) : Option (Option Nat) :=
  match P.underlying t with
  | some (.int _) => some none
  | some (.struct fs) => if intFields P fs.toList 0 && !P.stoodInHeld t then some (some fs.size) else none
  | _ => none
def mapT (P : Program) (t : TypeId) : Option (TypeId × TypeId × Option Nat) := do
  match ← P.underlying t with
  | .map k e => (keyT P k).map fun kd => (k, e, kd)
  | _ => none
def zeroV (P : Program) (t : TypeId) : Option AV := do
  let i ← P.info? t
  let z ← i.zero
  avConst z

def cBuiltin (P : Program) (b : Builtin) (ts : Array TypeId) (args : List Operand) : Option AOp :=
  match b, ts.toList, args with
  | .len, [t], [x] => do
    match ← P.underlying t with
    | .slice _ => (cArg x).map .len
    | .map _ _ => (cArg x).map .mlen
    | _ => none
  | .clear, [t], [x] => do
    let e ← elemT P t
    let n ← sizeT P e
    let z ← zeroT P e
    if n = 0 then none
    pure (.clear n z (← cArg x))
  | .max, _, [x, y] => do pure (.max (← cArg x) (← cArg y))
  | .min, _, [x, y] => do pure (.min (← cArg x) (← cArg y))
  | .append, [t, u], [x, y] => do
    if t ≠ u then none
    let e ← elemT P t
    let i ← P.info? e
    let _ ← zeroT P e
    if i.size = 0 then none
    pure (.append i.size i.bytes (← cArg x) (← cArg y))
  | .copy, [t, _], [x, y] => do
    let e ← elemT P t
    pure (.copy (← sizeT P e) (← cArg x) (← cArg y))
  | _, _, _ => none

def cOp (P : Program) (op : Op) : Option AOp :=
  match op with
  | .move x | .assign x => (cArg x).map .mv
  | .pick c a b => do pure (.pick (← cArg c) (← cArg a) (← cArg b))
  | .binOp op t x y _ => do
    let x ← cArg x
    let y ← cArg y
    match op with
    | .eql => cEq P t false x y .eql
    | .neq => cEq P t true x y .neq
    | op => pure (.bin op x y)
  | .unOp op _ x => do pure (.un op (← cArg x))
  | .convert s d x => do
    match ← P.underlying s, ← P.underlying d with
    | .int _, .int k => (cArg x).map (.conv k)
    | _, _ => none
  | .load t x => do pure (.load (← szT P t) (← cArg x))
  | .store t a x => do pure (.store (← sizeT P t) (← cArg a) (← cArg x))
  | .alloc t => (zeroT P t).map .alloc
  | .box _ x => (cArg x).map .box
  | .fieldAddr s x f => do
    let f ← fieldT P s f
    if (← sizeT P f.type) = 0 then none
    pure (.fieldAddr f.offset (← cArg x))
  | .field s x f => do
    let f ← fieldT P s f
    pure (.field f.offset (← szT P f.type) (← cArg x))
  | .indexAddr t x i => do
    match ← P.underlying t with
    | .slice e => pure (.indexAddr (← sizeT P e) (← cArg x) (← cArg i))
    | .array n e => pure (.indexArr n (← sizeT P e) (← cArg x) (← cArg i))
    | _ => none
  | .slice t x lo hi mx => do
    let e ← elemT P t
    if mx.isSome && hi.isNone then none
    pure (.slice (← sizeT P e) (← cArg x) (← cOpt lo) (← cOpt hi) (← cOpt mx))
  | .build t parts => do
    match ← P.underlying t with
    | .struct fs =>
      let z ← zeroT P t
      let pl ← placesT P fs.toList
      let ps ← cParts z.length (pl[·]?) parts.toList
      pure (.build z ps)
    | _ => none
  | .buildSlice t n parts => do
    let e ← elemT P t
    let size ← sizeT P e
    let ps ← cParts (n * size) (fun i => some (i * size, size)) parts.toList
    let z ← zeroT P e
    if n * size > 2 ^ 24 ∨ size = 0 then none else some (.buildSlice n size z ps)
  | .makeSlice t l c => do
    let e ← elemT P t
    let i ← P.info? e
    let z ← zeroT P e
    if i.size = 0 then none
    pure (.makeSlice i.size i.bytes z (← cArg l) (← cArg c))
  | .makeFunc (.func f) first caps => do
    let as ← caps.toList.mapM cArg
    if first.toList.isEmpty then some (.makeFunc f as) else none
  | .extract x i => do pure (.extract (← cArg x) i)
  | .nilCheck x => (cArg x).map .nilCheck
  | .index t x i => do
    match ← P.underlying t with
    | .string => pure (.strIndex (← cArg x) (← cArg i))
    | _ => none
  | .makeMap t r => do
    let _ ← mapT P t
    if r.isNone then some .makeMap else none
  | .lookup t m i ok => do
    let (_, e, kd) ← mapT P t
    let z ← zeroV P e
    pure (.lookup kd z ok (← cArg m) (← cArg i))
  | .mapUpdate t m i x => do
    let (_, _, kd) ← mapT P t
    pure (.mapUpdate kd (← cArg m) (← cArg i) (← cArg x))
  | .call c =>
    match c.callee with
    | .value (.func f) => do pure (.call f (← c.args.toList.mapM cArg))
    | .value (.tmp t) => do pure (.callv (.t t) (← c.args.toList.mapM cArg))
    | .builtin b => cBuiltin P b c.argTypes c.args.toList
    | _ => none
  | _ => none

/-- What is said of a function beside its code: its slots that are kept between regions, the functions and slots whose calls write, slots whose append is of class 0. -/
structure Cfg where
  N : Nat
  L : List Nat
  hv : List Nat
  hs : List Nat
  fl : List Nat
  ml : List Nat
  il : List Nat
  xl : List Nat

/-- An append whose answer may be written, or that writes into what may be written. -/
def asM (g : Cfg) (d : Option Nat) (op : AOp) : AOp :=
  match op with
  | .append s b x y => if d.any (g.ml.contains ·) then .appendM s b x y else if d.any (g.il.contains ·) then .appendI s b x y else .append s b x y
  | .box x => if d.any (g.xl.contains ·) then .boxF none x else .box x
  | .load sz x => if d.any (g.xl.contains ·) then .loadF sz x else .load sz x
  | op => op

/-- A store into a new block that is not written again. -/
def fixOf (P : Program) (g : Cfg) (o : Oper) : Option (Nat × Nat × Arg) :=
  match cOp P o.op, o.guard, o.dst with
  | some (.store n (.t d) x), none, none => if g.xl.contains d && decide (d < g.N) then some (d, n, x) else none
  | _, _, _ => none

def cOper (P : Program) (g : Cfg) (ops : Array Oper) (o : Oper) : Option IOp :=
  match fixOf P g o with
  | some (d, n, x) => some { dst := some d, op := .storeF n (.t d) x, guard := none, cls := 2 }
  | none => do
  let op := asM g o.dst ((cOp P o.op).getD .bad)
  if (o.dst.all (· < g.N)) = false then none
  match o.guard with
  | none => some { dst := o.dst, op, guard := none, cls := op.cls g.hv g.hs g.fl o.dst }
  | some (j, want) => do
    let d ← (ops[j]?).bind (·.dst)
    if d < g.N then some { dst := o.dst, op, guard := some (d, want), cls := op.cls g.hv g.hs g.fl o.dst } else none

/-! ### What an abstract state says of a frame -/
structure ASim (N : Nat) (s : Sg) (e : Env) (h : AH) (w0 : World) (own : Nat → Prop) (a : Act) (w : World) : Prop where
  heap : HSim s h w0 own w
  defers : a.defers = []
  size : a.tmps.size = N
  rel : ∀ t, VRel s (e.get t) (a.tmps.getD t undef)

theorem Env.get_cons (t : Nat) (v : AV) (e : Env) (u : Nat) : Env.get ((t, v) :: e) u = if t = u then v else e.get u := rfl

theorem ASim.put {N : Nat} {s : Sg} {e : Env} {h : AH} {w0 : World} {own : Nat → Prop} {a : Act} {w : World} (k : ASim N s e h w0 own a w)
    {s' : Sg} {h' : AH} {w' : World} (hs : s.le s') (hh : HSim s' h' w0 own w') {d : Option Nat} (hd : d.all (· < N) = true) {x : AV} {v : Value} (hv : VRel s' x v) :
    ASim N s' (e.put d x) h' w0 own (a.put d v) w' := by
  cases d with
  | none => exact ⟨hh, k.defers, k.size, fun t => (k.rel t).mono hs⟩
  | some d =>
    have hd' : d < N := by simpa using hd
    refine ⟨hh, k.defers, by simp [Act.put, k.size], fun t => ?_⟩
    simp only [Env.put, Env.get_cons, Act.put]
    by_cases ht : d = t
    · subst ht
      rw [if_pos rfl]
      have : (a.tmps.setIfInBounds d v).getD d undef = v := by
        have hlt : d < a.tmps.size := by rw [k.size]; exact hd'
        simp [Array.getD, hlt]
      rw [this]; exact hv
    · rw [if_neg ht]
      have : (a.tmps.setIfInBounds d v).getD t undef = a.tmps.getD t undef := by
        simp only [Array.getD_eq_getD_getElem?, Array.getElem?_setIfInBounds_ne ht]
      rw [this]; exact (k.rel t).mono hs

theorem av1_rel {v : Value} {x : AV} (h : av1 v = some x) (s : Sg) : VRel s x v ∧ v.oneCell' = true ∧ x.one = true := by
  unfold av1 at h
  split at h
  · split at h
    · rename_i k n hr
      cases h; exact ⟨.int k n hr, rfl, rfl⟩
    · cases h
  · cases h; exact ⟨.bool _, rfl, rfl⟩
  · cases h; exact ⟨.str _, rfl, rfl⟩
  · cases h
    exact ⟨.sl true 0 [] .full none 0 [] rfl (by simp) (by simp) rfl (fun _ => ⟨rfl, rfl⟩) (fun _ e => by cases e) (Nat.le_refl _) (by omega) rfl, rfl, rfl⟩
  · cases h; exact ⟨.nilp, rfl, rfl⟩
  · cases h; exact ⟨.nilfn, rfl, rfl⟩
  · cases h; exact ⟨.nilmap, rfl, rfl⟩
  · cases h

theorem mapM_av1_rel (s : Sg) : ∀ {vs : List Value} {xs : List AV}, vs.mapM av1 = some xs → VRels s xs vs ∧ (∀ v ∈ vs, v.oneCell' = true) ∧ allOne xs = true := by
  intro vs
  induction vs with
  | nil => intro xs h; simp at h; subst h; exact ⟨.nil s, by simp, rfl⟩
  | cons v vs ih =>
    intro xs h
    simp only [List.mapM_cons] at h
    cases hv : av1 v with
    | none => simp [hv] at h
    | some x =>
      cases hr : vs.mapM av1 with
      | none => simp [hv, hr] at h
      | some ys =>
        simp [hv, hr] at h
        subst h
        obtain ⟨h1, h2, h3⟩ := ih hr
        obtain ⟨r1, r2, r3⟩ := av1_rel hv s
        exact ⟨.cons r1 h1, by simpa using ⟨r2, h2⟩, by simp [allOne, r3, h3]⟩

theorem avConst_rel {v : Value} {x : AV} (h : avConst v = some x) (s : Sg) : VRel s x v := by
  unfold avConst at h
  split at h
  · rename_i cs
    cases hm : cs.toList.mapM av1 with
    | none => simp [hm] at h
    | some xs =>
      simp [hm] at h
      subst h
      obtain ⟨h1, _, _⟩ := mapM_av1_rel s hm
      exact .st xs cs.toList h1.1 h1.2
  · exact (av1_rel h s).1

theorem cArg_rel {N : Nat} {s : Sg} {e : Env} {h : AH} {w0 : World} {own : Nat → Prop} {a : Act} {w : World} (k : ASim N s e h w0 own a w)
    {x : Operand} {ax : Arg} (hx : cArg x = some ax) : VRel s (ax.ev e) (a.eval x) := by
  unfold cArg at hx
  split at hx
  · cases hx; exact k.rel _
  · rename_i v
    cases hv : avConst v with
    | none => simp [hv] at hx
    | some y => simp [hv] at hx; subst hx; exact avConst_rel hv s
  · cases hx; exact .fn _ [] [] rfl (by simp)
  · cases hx

theorem cArgs_rel {N : Nat} {s : Sg} {e : Env} {h : AH} {w0 : World} {own : Nat → Prop} {a : Act} {w : World} (k : ASim N s e h w0 own a w) :
    ∀ {xs : List Operand} {as : List Arg}, xs.mapM cArg = some as → VRels s (as.map (Arg.ev e)) (xs.map a.eval) := by
  intro xs
  induction xs with
  | nil => intro as hx; simp at hx; subst hx; exact .nil s
  | cons x xs ih =>
    intro as hx
    simp only [List.mapM_cons] at hx
    cases hv : cArg x with
    | none => simp [hv] at hx
    | some y =>
      cases hr : xs.mapM cArg with
      | none => simp [hv, hr] at hx
      | some ys =>
        simp [hv, hr] at hx
        subst hx
        exact .cons (cArg_rel k hv) (ih hr)

/-! ### Inversions of the relation -/
theorem VRel.int_inv {s : Sg} {k : IntKind} {n : Int} {v : Value} (h : VRel s (.int k n) v) : v = .int k n ∧ InR k n := by cases h with | int _ _ h => exact ⟨rfl, h⟩
theorem VRel.bool_inv {s : Sg} {b : Bool} {v : Value} (h : VRel s (.bool b) v) : v = .bool b := by cases h; rfl
theorem VRel.str_inv {s : Sg} {b : ByteArray} {v : Value} (h : VRel s (.str b) v) : v = .string b := by cases h; rfl
theorem VRel.one_inv {s : Sg} {x : AV} {v : Value} (h : VRel s x v) (h1 : x.one = true) : v.oneCell' = true := by
  cases h <;> first | rfl | (simp [AV.one] at h1)
theorem VRels.one_inv {s : Sg} : ∀ {xs : List AV} {vs : List Value}, VRels s xs vs → allOne xs = true → ∀ v ∈ vs, v.oneCell' = true := by
  intro xs vs h h1 v hv
  obtain ⟨j, hj, rfl⟩ := List.getElem_of_mem hv
  have hall : ∀ (xs : List AV), allOne xs = true → ∀ (j : Nat) (x : AV), xs[j]? = some x → x.one = true := by
    intro xs
    induction xs with
    | nil => intro _ j x hx; simp at hx
    | cons y ys ih =>
      intro ha j x hx
      simp [allOne] at ha
      cases j with
      | zero => simp at hx; subst hx; exact ha.1
      | succ j => exact ih ha.2 j x (by simpa using hx)
  have hjx : j < xs.length := by rw [← h.1]; exact hj
  exact (h.2 j _ _ (List.getElem?_eq_getElem hjx) (List.getElem?_eq_getElem hj)).one_inv (hall xs h1 j _ (List.getElem?_eq_getElem hjx))

/-- The cells of a known value. -/
theorem VRel.cells {s : Sg} {x : AV} {v : Value} (h : VRel s x v) (h1 : allOne x.cells = true) : VRels s x.cells v.cells.toList ∧ ∀ u ∈ v.cells.toList, u.oneCell' = true := by
  have key : VRels s x.cells v.cells.toList := by
    cases h with
    | undef v => simp [AV.cells, allOne, AV.one] at h1
    | st cells vs hlen hrel => exact ⟨by simpa [Value.cells, AV.cells] using hlen, by simpa [Value.cells, AV.cells] using hrel⟩
    | tup => simp [AV.cells, allOne, AV.one] at h1
    | int k n h => exact .cons (.int k n h) (.nil s)
    | bool b => exact .cons (.bool b) (.nil s)
    | str b => exact .cons (.str b) (.nil s)
    | sl nl n cells tl a cap vs a1 a2 a3 a4 a5 a6 a7 a8 a9 => exact .cons (.sl nl n cells tl a cap vs a1 a2 a3 a4 a5 a6 a7 a8 a9) (.nil s)
    | ptr b off c h => exact .cons (.ptr b off c h) (.nil s)
    | sptr cells ad vs a1 a2 a3 a4 => exact .cons (.sptr cells ad vs a1 a2 a3 a4) (.nil s)
    | nilp => exact .cons .nilp (.nil s)
    | msl b off n cap c k a1 a2 a3 a4 => exact .cons (.msl b off n cap c k a1 a2 a3 a4) (.nil s)
    | map b c a1 => exact .cons (.map b c a1) (.nil s)
    | nilmap => exact .cons .nilmap (.nil s)
    | fn f caps vs a1 a2 => exact .cons (.fn f caps vs a1 a2) (.nil s)
    | nilfn => exact .cons .nilfn (.nil s)
  exact ⟨key, key.one_inv h1⟩
end Go.Abs
