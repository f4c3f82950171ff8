/- The compact form of a function's code, and what each operation asks and gives, on abstract values. Definitions alone. -/
import Derived.Test.YtidmekdkfiljjaaGreatK1
namespace Go.Abs

abbrev Env := List (Nat × AV)
def Env.get : Env → Nat → AV
  | [], _ => .undef
  | (k, v) :: r, t => if k = t then v else Env.get r t
def Env.keep (L : List Nat) (e : Env) : Env := L.map fun t => (t, e.get t)

inductive Arg where
  | t (n : Nat)
  | c (v : AV)
def Arg.ev (e : Env) : Arg → AV
  | .t n => e.get n
  | .c v => v

inductive EqK where
  | bool | slice | func | ptr | ints
inductive AOp where
  | mv (x : Arg)
  | pick (c a b : Arg)
  | bin (op : BinOp) (x y : Arg)
  | eqv (k : EqK) (neg : Bool) (nf : Nat) (x y : Arg)
  | un (op : UnOp) (x : Arg)
  | conv (k : IntKind) (x : Arg)
  | load (sz : Option Nat) (x : Arg)
  | fieldAddr (off : Nat) (x : Arg)
  | field (off : Nat) (sz : Option Nat) (x : Arg)
  | indexAddr (size : Nat) (x i : Arg)
  | indexArr (len size : Nat) (x i : Arg)
  | len (x : Arg)
  | max (x y : Arg)
  | min (x y : Arg)
  | slice (size : Nat) (x : Arg) (lo hi mx : Option Arg)
  | build (zero : List AV) (parts : List (Nat × Nat × Arg))
  | buildSlice (n size : Nat) (zero : List AV) (parts : List (Nat × Nat × Arg))
  | makeFunc (f : FuncId) (caps : List Arg)
  | extract (x : Arg) (i : Nat)
  | nilCheck (x : Arg)
  | call (f : FuncId) (args : List Arg)
  | callv (f : Arg) (args : List Arg)
  | alloc (z : List AV)
  | box (x : Arg)
  | makeSlice (size bytes : Nat) (z : List AV) (l c : Arg)
  | append (size bytes : Nat) (x y : Arg)
  | store (n : Nat) (a x : Arg)
  | copy (size : Nat) (d s : Arg)
  | appendM (size bytes : Nat) (x y : Arg)
  | appendI (size bytes : Nat) (x y : Arg)
  | clear (size : Nat) (z : List AV) (x : Arg)
  | strIndex (x i : Arg)
  | makeMap
  | lookup (kd : Option Nat) (zero : AV) (ok : Bool) (m i : Arg)
  | mapUpdate (kd : Option Nat) (m i x : Arg)
  | mlen (x : Arg)
  | boxF (n : Option Nat) (x : Arg)
  | storeF (n : Nat) (a x : Arg)
  | loadF (sz : Option Nat) (x : Arg)
  | bad

/-- The class of an operation: 0: it turns nothing; 1: it makes something new; 2: it writes. hv: functions that write; hs: slots whose call writes; fl: slots whose append is of class 0. -/
def AOp.cls (hv hs fl : List Nat) (dst : Option Nat) : AOp → Nat
  | .alloc _ | .box _ | .makeSlice .. | .appendM .. | .makeMap => 1
  | .append .. => if dst.any (fl.contains ·) then 0 else 1
  | .store .. | .storeF .. | .copy .. | .appendI .. | .clear .. | .mapUpdate .. | .bad => 2
  | .call f _ => if hv.contains f || dst.any (hs.contains ·) then 2 else 0
  | .callv _ _ => if dst.any (hs.contains ·) then 2 else 0
  | _ => 0

structure IOp where
  dst : Option Nat
  op : AOp
  guard : Option (Nat × Bool)
  cls : Nat

inductive C where
  | skip
  | seq (a b : C)
  | cond (c : Arg) (a b : C)
  | block (id : Nat) (c : C)
  | loop (c : C)
  | exit (id : Nat)
  | ret
  | reg (ops : List IOp)
  | bad

/-- Cells of a value. -/
def AV.cells : AV → List AV
  | .st cs => cs
  | v => [v]
/-- A value of one cell, known. -/
def AV.one : AV → Bool
  | .undef | .st _ | .tup _ => false
  | _ => true
def allOne : List AV → Bool
  | [] => true
  | x :: r => x.one && allOne r

def lenOK : Option Nat → List AV → Bool
  | none, l => decide (0 < l.length)
  | some n, l => l.length == n

def spl {α : Type} (cs : List α) (off : Nat) : List α → List α
  | [] => cs
  | x :: r => spl (cs.set off x) (off + 1) r

def bitop (op : BinOp) (k : IntKind) (x y : Int) : Int :=
  match op with
  | .and => k.wrap ((BitVec.ofInt k.bits x &&& BitVec.ofInt k.bits y).toNat : Int)
  | .or => k.wrap ((BitVec.ofInt k.bits x ||| BitVec.ofInt k.bits y).toNat : Int)
  | .xor => k.wrap ((BitVec.ofInt k.bits x ^^^ BitVec.ofInt k.bits y).toNat : Int)
  | _ => k.wrap ((BitVec.ofInt k.bits x &&& ~~~(BitVec.ofInt k.bits y)).toNat : Int)

def evInt (op : BinOp) (k k' : IntKind) (a b : Int) (K : AV → Prop) : Prop :=
  match op with
  | .shl => 0 ≤ b ∧ K (.int k (k.wrap (a * 2 ^ (Nat.min b.toNat k.bits))))
  | .shr => 0 ≤ b ∧ K (.int k (a.fdiv (2 ^ (Nat.min b.toNat k.bits))))
  | .add => k = k' ∧ InR k (a + b) ∧ K (.int k (a + b))
  | .sub => k = k' ∧ InR k (a - b) ∧ K (.int k (a - b))
  | .mul => k = k' ∧ InR k (a * b) ∧ K (.int k (a * b))
  | .quo => k = k' ∧ b ≠ 0 ∧ InR k (a.tdiv b) ∧ K (.int k (a.tdiv b))
  | .rem => k = k' ∧ b ≠ 0 ∧ K (.int k (a.tmod b))
  | .eql => k = k' ∧ K (.bool (decide (a = b)))
  | .neq => k = k' ∧ K (.bool (!decide (a = b)))
  | .lss => k = k' ∧ K (.bool (decide (a < b)))
  | .leq => k = k' ∧ K (.bool (decide (a ≤ b)))
  | .gtr => k = k' ∧ K (.bool (decide (b < a)))
  | .geq => k = k' ∧ K (.bool (decide (b ≤ a)))
  | op => k = k' ∧ K (.int k (bitop op k a b))

def evBin (op : BinOp) (x y : AV) (K : AV → Prop) : Prop :=
  match x, y with
  | .int k a, .int k' b => evInt op k k' a b K
  | .str a, .str b =>
    match op with
    | .eql => K (.bool (a.toList == b.toList))
    | .neq => K (.bool (!(a.toList == b.toList)))
    | .lss => K (.bool (Op.bytesLess a.toList b.toList))
    | _ => False
  | _, _ => False

def eqCells : List AV → List AV → Option Bool
  | [], [] => some true
  | .int k a :: xs, .int k' b :: ys => if k = k' then (eqCells xs ys).map (decide (a = b) && ·) else none
  | _, _ => none

def evEq (k : EqK) (nf : Nat) (x y : AV) (K : Bool → Prop) : Prop :=
  match k with
  | .bool => match x, y with
    | .bool a, .bool b => K (a == b)
    | _, _ => False
  | .slice => match x, y with
    | .sl nl _ _ _, .sl true 0 [] _ => K nl
    | .msl _ _ _ _, .sl true 0 [] _ => K false
    | _, _ => False
  | .func => match x, y with
    | .fn _ _, .nilfn => K false
    | .nilfn, .nilfn => K true
    | _, _ => False
  | .ptr => match x, y with
    | .ptr _ _, .nilp => K false
    | .sptr _, .nilp => K false
    | .nilp, .nilp => K true
    | _, _ => False
  | .ints => match x, y with
    | .st xs, .st ys => ∃ b, xs.length = nf ∧ eqCells xs ys = some b ∧ K b
    | _, _ => False

def evUn (op : UnOp) (x : AV) (K : AV → Prop) : Prop :=
  match op, x with
  | .not, .bool b => K (.bool (!b))
  | .neg, .int k n => InR k (-n) ∧ K (.int k (-n))
  | .xor, .int k n => K (.int k (bitop .xor k (if k.signed then -1 else k.max) n))
  | _, _ => False

def evLoad (sz : Option Nat) (cells : List AV) (K : AV → Prop) : Prop :=
  match sz with
  | none => ∃ x, cells[0]? = some x ∧ K x
  | some n => n ≤ cells.length ∧ K (.st (cells.take n))

/-- The bounds of a slice expression: low, high, max. -/
def evBound (e : Env) (d : Nat) (K : Nat → Prop) : Option Arg → Prop
  | none => K d
  | some x => match x.ev e with
    | .int _ n => 0 ≤ n ∧ K n.toNat
    | _ => False

/-- Memory behind a slice that is read: m elements of 'size' cells. -/
def rdSl (size : Nat) (h : AH) (y : AV) (K : Nat → List AV → Prop) : Prop :=
  match y with
  | .sl _ m ys _ => ys.length = m * size ∧ K m ys
  | .msl b off m _ => ∃ cs, h.blk b = some cs ∧ off + m * size ≤ cs.length ∧ K m ((cs.drop off).take (m * size))
  | _ => False

/-- All that may be written in h reads the same in h'. -/
def AH.leB (h h' : AH) : Prop := (∀ b c, h.blk b = some c → h'.blk b = some c) ∧ ∀ b es, h.mp b = some es → h'.mp b = some es
theorem AH.leB.refl (h : AH) : AH.leB h h := ⟨fun _ _ e => e, fun _ _ e => e⟩
theorem AH.leB.trans {a b c : AH} (h : AH.leB a b) (k : AH.leB b c) : AH.leB a c := ⟨fun x y e => k.1 x y (h.1 x y e), fun x y e => k.2 x y (h.2 x y e)⟩
theorem AH.leB_put {h : AH} {b : Nat} {cs : List AV} (hb : h.blk b = none) : AH.leB h (h.put b cs) := ⟨fun x c e => by
    show (if x = b then _ else _) = _
    rw [if_neg (fun hx => by subst hx; rw [hb] at e; cases e)]; exact e, fun _ _ e => e⟩
theorem AH.leB_setTok (h : AH) (t n size : Nat) : AH.leB h (h.setTok t n size) := ⟨fun _ _ e => e, fun _ _ e => e⟩
theorem AH.leB_putM {h : AH} {b : Nat} {es : List (AV × AV)} (hb : h.mp b = none) : AH.leB h (h.putM b es) := ⟨fun _ _ e => e, fun x c e => by
    show (if x = b then _ else _) = _
    rw [if_neg (fun hx => by subst hx; rw [hb] at e; cases e)]; exact e⟩

/-- Whether two keys are the same, where that can be told. kd: the number of a key's fields, none for a number. -/
def keyEq (kd : Option Nat) : AV → AV → Option Bool
  | .int k a, .int k' b => if kd = none ∧ k = k' then some (decide (a = b)) else none
  | .st xs, .st ys => if kd = some xs.length then eqCells xs ys else none
  | _, _ => none
def keyOK (kd : Option Nat) : AV → Bool
  | .int _ _ => kd == none
  | .st xs => kd == some xs.length && (eqCells xs xs).isSome
  | _ => false
def findAV (kd : Option Nat) (k : AV) : List (AV × AV) → Option (Option AV)
  | [] => if keyOK kd k then some none else none
  | (q, v) :: r => match keyEq kd k q with
    | some true => some (some v)
    | some false => findAV kd k r
    | none => none
def updAV (kd : Option Nat) (k v : AV) : List (AV × AV) → Option (List (AV × AV))
  | [] => if keyOK kd k then some [(k, v)] else none
  | (q, u) :: r => match keyEq kd k q with
    | some true => some ((k, v) :: r)
    | some false => (updAV kd k v r).map ((q, u) :: ·)
    | none => none

/-- The parts of a literal, laid into its cells. -/
def fillAV (e : Env) : List (Nat × Nat × Arg) → List AV → List AV
  | [], cs => cs
  | (off, _, x) :: r, cs => fillAV e r (spl cs off (x.ev e).cells)
def partsOK (e : Env) : List (Nat × Nat × Arg) → Bool
  | [] => true
  | (_, size, x) :: r => (x.ev e).cells.length == size && allOne (x.ev e).cells && partsOK e r

def ownOf (s : Sg) (h : AH) (k : Nat) : Prop :=
  (∃ b, h.blk b ≠ none ∧ s.blk b = some k) ∨ (∃ t n i, h.tok t = some n ∧ s.tok t = some i ∧ n.1 < i.cap ∧ i.blk = k) ∨ (∃ b, h.mp b ≠ none ∧ s.mb b = some k)

def callOK (P : Program) (f : FuncId) : Bool :=
  match P.funcs[f]? with
  | some fn => !(fn.name == "runtime.NumGoroutine") && fn.body.isSome
  | none => false

/-- A call of f comes back with a value and a heap of which R holds. -/
def ACalls (P : Program) (f : FuncId) (args : List AV) (h : AH) (R : AV → AH → Prop) : Prop :=
  callOK P f = true ∧ ∀ (s : Sg) (vs : List Value) (w : World), VRels s args vs → HSim s h w (ownOf s h) w →
    Calls P f vs.toArray w fun e w' => ∃ s' r v h', s.le s' ∧ HSim s' h' w (ownOf s h) w' ∧ e = .returned v ∧ VRel s' r v ∧ R r h'

/-- A call that returns one value and turns nothing. -/
def RCall (P : Program) (f : FuncId) (args : List AV) (h : AH) (v : AV) : Prop :=
  ∀ h', AH.leB h h' → ACalls P f args h' fun r h'' => r = v ∧ h'' = h'

/-- What comes behind, kept as it is while the rest of a goal is worked at. -/
class KF (α : Type) where
  k : α
/-- A call that returns a value of which K holds, and turns nothing. -/
def CallG (P : Program) (f : FuncId) (args : List AV) (h : AH) [c : KF (AV → Prop)] : Prop := ∃ v, RCall P f args h v ∧ c.k v
/-- A call that may write. -/
def CallS (P : Program) (f : FuncId) (args : List AV) (h : AH) [c : KF (AV → AH → Prop)] : Prop := ACalls P f args h c.k

/-- A part of a slice that may be written; at its very end nothing is left. -/
def mslCut (b off size h' l m : Nat) (cap : Option Nat) : AV := if l = 0 ∨ l < m then .msl b (off + l * size) (h' - l) cap else .sl false (h' - l) [] .unk

/-- An operation that turns nothing. -/
def evF (P : Program) (op : AOp) (e : Env) (h : AH) (K : AV → Prop) : Prop :=
  match op with
  | .mv x => K (x.ev e)
  | .pick c a b => match c.ev e with
    | .bool t => (t = true → K (a.ev e)) ∧ (t = false → K (b.ev e))
    | _ => False
  | .bin op x y => evBin op (x.ev e) (y.ev e) K
  | .eqv k neg nf x y => evEq k nf (x.ev e) (y.ev e) fun b => K (.bool (if neg then !b else b))
  | .un op x => evUn op (x.ev e) K
  | .conv k x => match x.ev e with
    | .int _ n => K (.int k (k.wrap n))
    | _ => False
  | .load sz x => match x.ev e with
    | .ptr b off => ∃ cs, h.blk b = some cs ∧ evLoad sz (cs.drop off) K
    | .sptr cs => evLoad sz cs K
    | _ => False
  | .loadF sz x => match x.ev e with
    | .sptr cs => evLoad sz cs K
    | _ => False
  | .fieldAddr off x => match x.ev e with
    | .ptr b o => K (.ptr b (o + off))
    | .sptr cs => K (.sptr (cs.drop off))
    | _ => False
  | .field off sz x => match x.ev e with
    | .st cs => evLoad sz (cs.drop off) K
    | _ => False
  | .indexAddr size x i => match x.ev e, i.ev e with
    | .sl _ n cs _, .int _ j => 0 ≤ j ∧ j < n ∧ K (.sptr (cs.drop (j.toNat * size)))
    | .msl b off n _, .int _ j => 0 ≤ j ∧ j < n ∧ K (.ptr b (off + j.toNat * size))
    | _, _ => False
  | .indexArr len size x i => match x.ev e, i.ev e with
    | .ptr b off, .int _ j => 0 ≤ j ∧ j < len ∧ K (.ptr b (off + j.toNat * size))
    | .sptr cs, .int _ j => 0 ≤ j ∧ j < len ∧ K (.sptr (cs.drop (j.toNat * size)))
    | _, _ => False
  | .len x => match x.ev e with
    | .sl _ n _ _ => K (.int .i64 n)
    | .msl _ _ n _ => K (.int .i64 n)
    | _ => False
  | .max x y => match x.ev e, y.ev e with
    | .int k a, .int k' b => k = k' ∧ K (.int k (Max.max a b))
    | _, _ => False
  | .min x y => match x.ev e, y.ev e with
    | .int k a, .int k' b => k = k' ∧ K (.int k (Min.min a b))
    | _, _ => False
  | .slice size x lo hi mx => match x.ev e with
    | .sl nl n cs tl =>
      evBound e n (fun m => m ≤ n ∧ evBound e n (fun h' => h' ≤ m ∧ evBound e 0 (fun l => l ≤ h' ∧
        K (.sl nl (h' - l) ((cs.drop (l * size)).take ((h' - l) * size))
          (match mx with
           | none => (match hi, lo, tl with
             | none, none, tl => tl
             | none, some _, .full => .full
             | _, _, _ => .unk)
           | some _ => if m = h' then .full else .unk))) lo) hi) mx
    | .msl b off n cap => match mx with
      | none => evBound e n (fun h' => h' ≤ cap.getD n ∧ evBound e 0 (fun l => l ≤ h' ∧ K (mslCut b off size h' l (cap.getD n) (cap.map (· - l)))) lo) hi
      | some mx => evBound e n (fun m => m ≤ cap.getD n ∧ evBound e n (fun h' => h' ≤ m ∧ evBound e 0 (fun l => l ≤ h' ∧ K (mslCut b off size h' l m (some (m - l)))) lo) hi) (some mx)
    | _ => False
  | .build zero parts => partsOK e parts = true ∧ K (.st (fillAV e parts zero))
  | .buildSlice n _ zero parts => partsOK e parts = true ∧ K (.sl false n (fillAV e parts (List.replicate n zero).flatten) .full)
  | .append size bytes x y => match x.ev e with
    | .sl nl n cs .full => cs.length = n * size ∧ rdSl size h (y.ev e) fun m ys => (n + m) * bytes ≤ 140737488355328 ∧ n + m ≤ 140737488355328 ∧
      K (.sl (nl && decide (n + m = 0)) (n + m) (cs ++ ys) .unk)
    | _ => False
  | .makeFunc f caps => K (.fn f (caps.map (Arg.ev e)))
  | .extract x i => match x.ev e with
    | .tup vs => ∃ v, vs[i]? = some v ∧ K v
    | _ => False
  | .nilCheck x => match x.ev e with
    | .ptr b o => K (.ptr b o)
    | .sptr cs => K (.sptr cs)
    | .fn f caps => K (.fn f caps)
    | _ => False
  | .strIndex x i => match x.ev e, i.ev e with
    | .str b, .int _ j => 0 ≤ j ∧ ∃ u, b[j.toNat]? = some u ∧ K (.int .u8 u.toNat)
    | _, _ => False
  | .lookup kd zero ok m i => match m.ev e with
    | .map b => ∃ es r, h.mp b = some es ∧ findAV kd (i.ev e) es = some r ∧ K (if ok then .tup [r.getD zero, .bool r.isSome] else r.getD zero)
    | _ => False
  | .mlen x => match x.ev e with
    | .map b => ∃ es, h.mp b = some es ∧ es.length ≤ 4611686018427387904 ∧ K (.int .i64 es.length)
    | _ => False
  | .boxF n x => lenOK n (x.ev e).cells = true ∧ allOne (x.ev e).cells = true ∧ K (.sptr (x.ev e).cells)
  | .call f args => CallG P f (args.map (Arg.ev e)) h (c := ⟨K⟩)
  | .callv g args => match g.ev e with
    | .fn f caps => CallG P f (args.map (Arg.ev e) ++ caps) h (c := ⟨K⟩)
    | _ => False
  | _ => False

/-- An operation that makes something new, or writes. -/
def evS (P : Program) (op : AOp) (e : Env) (h : AH) (K : AV → AH → Prop) : Prop :=
  match op with
  | .alloc z => ∀ b, h.blk b = none → K (.ptr b 0) (h.put b z)
  | .box x => (x.ev e).cells.length > 0 ∧ allOne (x.ev e).cells = true ∧ ∀ b, h.blk b = none → K (.ptr b 0) (h.put b (x.ev e).cells)
  | .makeSlice _ bytes z l c => match l.ev e, c.ev e with
    | .int _ l, .int _ c => 0 ≤ l ∧ l ≤ c ∧ c ≤ 140737488355328 ∧ c * bytes ≤ 140737488355328 ∧
      ∀ b, h.blk b = none → K (.msl b 0 l.toNat (some c.toNat)) (h.put b (List.replicate c.toNat z).flatten)
    | _, _ => False
  | .append size bytes x y => match x.ev e with
    | .sl nl n cs .full => cs.length = n * size ∧ rdSl size h (y.ev e) fun m ys => (n + m) * bytes ≤ 140737488355328 ∧ n + m ≤ 140737488355328 ∧
      ∀ t, h.tok t = none → K (.sl (nl && decide (n + m = 0)) (n + m) (cs ++ ys) (.tok t)) (h.setTok t (n + m) size)
    | .sl nl n cs (.tok t) => cs.length = n * size ∧ h.tok t = some (n, size) ∧ rdSl size h (y.ev e) fun m ys => (n + m) * bytes ≤ 140737488355328 ∧ n + m ≤ 140737488355328 ∧
      K (.sl (nl && decide (n + m = 0)) (n + m) (cs ++ ys) (.tok t)) (h.setTok t (n + m) size)
    | _ => False
  | .store n a x => match a.ev e with
    | .ptr b off => ∃ cs, h.blk b = some cs ∧ (x.ev e).cells.length = n ∧ allOne (x.ev e).cells = true ∧ off + n ≤ cs.length ∧ K .undef (h.put b (spl cs off (x.ev e).cells))
    | _ => False
  | .storeF n a x => match a.ev e with
    | .ptr b 0 => ∃ cs, h.blk b = some cs ∧ cs.length = n ∧ (x.ev e).cells.length = n ∧ allOne (x.ev e).cells = true ∧ K (.sptr (x.ev e).cells) (h.del b)
    | _ => False
  | .copy size d s => match d.ev e with
    | .msl b off n _ => ∃ cs, h.blk b = some cs ∧ off + n * size ≤ cs.length ∧ rdSl size h (s.ev e) fun m ys => allOne ys = true ∧
      K (.int .i64 (Nat.min m n : Nat)) (h.put b (spl cs off (ys.take (Nat.min m n * size))))
    | _ => False
  | .appendM size bytes x y => match x.ev e with
    | .sl _ n cs .full => cs.length = n * size ∧ rdSl size h (y.ev e) fun m ys => 0 < m ∧ (n + m) * bytes ≤ 140737488355328 ∧ n + m ≤ 140737488355328 ∧
      ∀ b, h.blk b = none → K (.msl b 0 (n + m) none) (h.put b (cs ++ ys))
    | _ => False
  | .appendI size bytes x y => match x.ev e with
    | .sl _ n cs .full => cs.length = n * size ∧ rdSl size h (y.ev e) fun m ys => 0 < m ∧ (n + m) * bytes ≤ 140737488355328 ∧ n + m ≤ 140737488355328 ∧
      ∀ b q, n + m ≤ q → h.blk b = none → K (.msl b 0 (n + m) (some q)) (h.put b (cs ++ ys ++ List.replicate ((q - (n + m)) * size) .undef))
    | .msl b off n (some q) => rdSl size h (y.ev e) fun m ys => ∃ cs, h.blk b = some cs ∧ (n + m) * bytes ≤ 140737488355328 ∧ n + m ≤ 140737488355328 ∧ off + n * size ≤ cs.length ∧
      (n + m ≤ q → off + (n + m) * size ≤ cs.length ∧ K (.msl b off (n + m) (some q)) (h.put b (spl cs (off + n * size) ys))) ∧
      (q < n + m → ∀ b' q', n + m ≤ q' → h.blk b' = none → K (.msl b' 0 (n + m) (some q')) (h.put b' ((cs.drop off).take (n * size) ++ ys ++ List.replicate ((q' - (n + m)) * size) .undef)))
    | _ => False
  | .clear size z x => match x.ev e with
    | .msl b off n _ => ∃ cs, h.blk b = some cs ∧ off + n * size ≤ cs.length ∧ K (.tup []) (h.put b (spl cs off (List.replicate n z).flatten))
    | _ => False
  | .makeMap => ∀ b, h.mp b = none → K (.map b) (h.putM b [])
  | .mapUpdate kd m i x => match m.ev e with
    | .map b => ∃ es es', h.mp b = some es ∧ updAV kd (i.ev e) (x.ev e) es = some es' ∧ K .undef (h.putM b es')
    | _ => False
  | .call f args => CallS P f (args.map (Arg.ev e)) h (c := ⟨K⟩)
  | .callv g args => match g.ev e with
    | .fn f caps => CallS P f (args.map (Arg.ev e) ++ caps) h (c := ⟨K⟩)
    | _ => False
  | _ => False

/-- An operation by its class. -/
def evOp (P : Program) (o : IOp) (e : Env) (h : AH) (K : AV → AH → Prop) : Prop :=
  if o.cls = 0 then evF P o.op e h fun v => K v h else evS P o.op e h K

def Env.put (e : Env) (d : Option Nat) (v : AV) : Env :=
  match d with
  | some d => (d, v) :: e
  | none => e

def evOps (P : Program) (K : Env → AH → Prop) : List IOp → Env → AH → Prop
  | [], e, h => K e h
  | o :: r, e, h =>
    match o.guard with
    | none => evOp P o e h fun v h' => evOps P K r (e.put o.dst v) h'
    | some (g, want) => match e.get g with
      | .bool b => (b = want → evOp P o ((g, .bool want) :: e) h fun v h' => evOps P K r (Env.put ((g, .bool want) :: e) o.dst v) h') ∧
        (b = !want → evOps P K r (Env.put ((g, .bool (!want)) :: e) o.dst (.tup [])) h)
      | .tup [] => evOps P K r (e.put o.dst (.tup [])) h
      | _ => False
end Go.Abs
