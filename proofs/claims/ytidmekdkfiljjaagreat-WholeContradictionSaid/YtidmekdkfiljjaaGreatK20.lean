/- What is to be shown of a piece of code, written out; a loop is left as it stands. No condition. -/
import Derived.Test.YtidmekdkfiljjaaGreatK19
namespace Go.Abs
open Go

/-- A loop. -/
def LoopG (P : Program) (g : Cfg) (c : C) (e : Env) (h : AH) [q : KF (Exit → Env → AH → Prop)] : Prop := AWP P g (.loop c) q.k e h

def C.vc (P : Program) (g : Cfg) : C → (Exit → Env → AH → Prop) → Env → AH → Prop
  | .skip, Q, e, h => Q .normal e h
  | .seq a b, Q, e, h => C.vc P g a (thenQ (fun e' h' => C.vc P g b Q e' h') Q) e h
  | .cond c a b, Q, e, h => match c.ev e with
    | .bool t => (t = true → C.vc P g a Q e h) ∧ (t = false → C.vc P g b Q e h)
    | _ => False
  | .block id c, Q, e, h => C.vc P g c (blockQ id Q) e h
  | .loop c, Q, e, h => LoopG P g c e h (q := ⟨Q⟩)
  | .exit id, Q, e, h => Q (.exit id) e h
  | .ret, Q, e, h => Q .ret e h
  | .reg ops, Q, e, h => evOps P (fun e' h' => Q .normal (e'.keep g.L) h') ops e h
  | .bad, _, _, _ => False

theorem thenQ_mono {K K' : Env → AH → Prop} {Q : Exit → Env → AH → Prop} (hk : ∀ e h, K e h → K' e h) : ∀ x e h, thenQ K Q x e h → thenQ K' Q x e h := by
  intro x e h hq
  cases x <;> first
    | exact hk _ _ hq
    | exact hq

theorem AWP.of_vc {P : Program} {g : Cfg} (hm : P.follows .mixedOrders = true) : ∀ {c : C} {Q : Exit → Env → AH → Prop} {e : Env} {h : AH}, C.vc P g c Q e h → AWP P g c Q e h := by
  intro c
  induction c with
  | skip => intro Q e h hv; exact awp_skip hv
  | seq a b iha ihb => intro Q e h hv; exact awp_seq (AWP.mono (thenQ_mono fun e h hb => ihb hb) (iha hv))
  | cond k a b iha ihb =>
    intro Q e h hv
    simp only [C.vc] at hv
    split at hv
    · rename_i t ht
      exact awp_cond ht (fun e1 => iha (hv.1 e1)) (fun e1 => ihb (hv.2 e1))
    · exact hv.elim
  | block id c ih => intro Q e h hv; exact awp_block (ih hv)
  | loop c ih => intro Q e h hv; exact hv
  | exit id => intro Q e h hv; exact awp_exit hv
  | ret => intro Q e h hv; exact awp_ret hv
  | reg ops => intro Q e h hv; exact awp_reg hm hv
  | bad => intro Q e h hv; exact hv.elim

theorem CallG.mk {P : Program} {f : FuncId} {args : List AV} {h : AH} {v : AV} {K : AV → Prop} (hc : RCall P f args h v) (hk : K v) : CallG P f args h (c := ⟨K⟩) := ⟨v, hc, hk⟩
theorem CallS.mk {P : Program} {f : FuncId} {args : List AV} {h : AH} {K R : AV → AH → Prop} (hc : ACalls P f args h R) (hk : ∀ r h', R r h' → K r h') : CallS P f args h (c := ⟨K⟩) :=
  ⟨hc.1, fun s vs w hv hs => (hc.2 s vs w hv hs).mono fun _ _ ⟨s', r, v, h', a1, a2, a3, a4, a5⟩ => ⟨s', r, v, h', a1, a2, a3, a4, hk _ _ a5⟩⟩

/-! ### What is asked, in forms whose continuation is not looked at before its turn -/
def LoadG (l : List AV) [c : KF (AV → Prop)] : Prop := ∃ x, l[0]? = some x ∧ c.k x
def LoadN (n : Nat) (acc l : List AV) [c : KF (AV → Prop)] : Prop := n ≤ l.length ∧ c.k (.st (acc ++ l.take n))
def LdE (sz : Option Nat) (l : List AV) [c : KF (AV → Prop)] : Prop := evLoad sz l c.k
def BlkG (o : Option (List AV)) [c : KF (List AV → Prop)] : Prop := ∃ cs, o = some cs ∧ c.k cs
def AllocG (h : AH) (z : List AV) [c : KF (AV → AH → Prop)] : Prop := ∀ b, h.blk b = none → c.k (.ptr b 0) (h.put b z)
def MakeG (h : AH) (l m bytes : Int) (z : List AV) [c : KF (AV → AH → Prop)] : Prop := 0 ≤ l ∧ l ≤ m ∧ m ≤ 140737488355328 ∧ m * bytes ≤ 140737488355328 ∧
      ∀ b, h.blk b = none → c.k (.msl b 0 l.toNat (some m.toNat)) (h.put b (List.replicate m.toNat z).flatten)
def TokG (h : AH) (nl : Bool) (n size : Nat) (cs : List AV) [c : KF (AV → AH → Prop)] : Prop := ∀ t, h.tok t = none → c.k (.sl nl n cs (.tok t)) (h.setTok t n size)
def CondG (t : Bool) [a : KF (Unit → Prop)] [b : KF (Unit → Bool → Prop)] : Prop := (t = true → a.k ()) ∧ (t = false → b.k () false)
def CondA (v : AV) [a : KF (Unit → Prop)] [b : KF (Unit → Bool → Prop)] : Prop := match v with
  | .bool t => CondG t
  | _ => False
def GuardA (v : AV) (want : Bool) [a : KF (Unit → Prop)] [b : KF (Unit → Bool → Prop)] [c : KF (Unit → Unit → Prop)] : Prop := match v with
  | .bool t => (t = want → a.k ()) ∧ (t = !want → b.k () false)
  | .tup [] => c.k () ()
  | _ => False
def FG (P : Program) (op : AOp) (e : Env) (h : AH) [c : KF (AV → Prop)] : Prop := evF P op e h c.k
def SG (P : Program) (op : AOp) (e : Env) (h : AH) [c : KF (AV → AH → Prop)] : Prop := evS P op e h c.k
def OG (P : Program) (ops : List IOp) (e : Env) (h : AH) [c : KF (Env → AH → Prop)] : Prop := evOps P c.k ops e h
def VG (P : Program) (g : Cfg) (c : C) (e : Env) (h : AH) [q : KF (Exit → Env → AH → Prop)] : Prop := C.vc P g c q.k e h
def BG (op : BinOp) (x y : AV) [c : KF (AV → Prop)] : Prop := evBin op x y c.k
def IG (op : BinOp) (k k' : IntKind) (a b : Int) [c : KF (AV → Prop)] : Prop := evInt op k k' a b c.k
def QG (k : EqK) (nf : Nat) (x y : AV) [c : KF (Bool → Prop)] : Prop := evEq k nf x y c.k
def UG (op : UnOp) (x : AV) [c : KF (AV → Prop)] : Prop := evUn op x c.k
def DG (e : Env) (d : Nat) (o : Option Arg) [c : KF (Nat → Prop)] : Prop := evBound e d c.k o
def DA (v : AV) [c : KF (Nat → Prop)] : Prop := match v with
  | .int _ n => 0 ≤ n ∧ c.k n.toNat
  | _ => False
def RG (size : Nat) (h : AH) (y : AV) [c : KF (Nat → List AV → Prop)] : Prop := rdSl size h y c.k
def LdA (h : AH) (sz : Option Nat) (v : AV) [c : KF (AV → Prop)] : Prop := match v with
  | .ptr b off => ∃ cs, h.blk b = some cs ∧ evLoad sz (cs.drop off) c.k
  | .sptr cs => evLoad sz cs c.k
  | _ => False
def LdX (sz : Option Nat) (v : AV) [c : KF (AV → Prop)] : Prop := match v with
  | .sptr cs => evLoad sz cs c.k
  | _ => False
def FaA (off : Nat) (v : AV) [c : KF (AV → Prop)] : Prop := match v with
  | .ptr b o => c.k (.ptr b (o + off))
  | .sptr cs => c.k (.sptr (cs.drop off))
  | _ => False
def FdA (off : Nat) (sz : Option Nat) (v : AV) [c : KF (AV → Prop)] : Prop := match v with
  | .st cs => evLoad sz (cs.drop off) c.k
  | _ => False
def IxA (size : Nat) (v i : AV) [c : KF (AV → Prop)] : Prop := match v, i with
  | .sl _ n cs _, .int _ j => 0 ≤ j ∧ j < n ∧ c.k (.sptr (cs.drop (j.toNat * size)))
  | .msl b off n _, .int _ j => 0 ≤ j ∧ j < n ∧ c.k (.ptr b (off + j.toNat * size))
  | _, _ => False
def IrA (len size : Nat) (v i : AV) [c : KF (AV → Prop)] : Prop := match v, i with
  | .ptr b off, .int _ j => 0 ≤ j ∧ j < len ∧ c.k (.ptr b (off + j.toNat * size))
  | .sptr cs, .int _ j => 0 ≤ j ∧ j < len ∧ c.k (.sptr (cs.drop (j.toNat * size)))
  | _, _ => False
def LnA (v : AV) [c : KF (AV → Prop)] : Prop := match v with
  | .sl _ n _ _ => c.k (.int .i64 n)
  | .msl _ _ n _ => c.k (.int .i64 n)
  | _ => False
def MxA (mn : Bool) (x y : AV) [c : KF (AV → Prop)] : Prop := match x, y with
  | .int k a, .int k' b => k = k' ∧ c.k (.int k (if mn then Min.min a b else Max.max a b))
  | _, _ => False
def CvA (k : IntKind) (x : AV) [c : KF (AV → Prop)] : Prop := match x with
  | .int _ n => c.k (.int k (k.wrap n))
  | _ => False
def ExA (i : Nat) (x : AV) [c : KF (AV → Prop)] : Prop := match x with
  | .tup vs => LoadG (vs.drop i)
  | _ => False
def NcA (x : AV) [c : KF (AV → Prop)] : Prop := match x with
  | .ptr b o => c.k (.ptr b o)
  | .sptr cs => c.k (.sptr cs)
  | .fn f caps => c.k (.fn f caps)
  | _ => False
def CaA (P : Program) (g : AV) (args : List AV) (h : AH) [c : KF (AV → Prop)] : Prop := match g with
  | .fn f caps => CallG P f (args ++ caps) h
  | _ => False
def CsA (P : Program) (g : AV) (args : List AV) (h : AH) [c : KF (AV → AH → Prop)] : Prop := match g with
  | .fn f caps => CallS P f (args ++ caps) h
  | _ => False
def SlA (e : Env) (size : Nat) (v : AV) (lo hi mx : Option Arg) [c : KF (AV → Prop)] : Prop := match v with
    | .sl nl n cs tl => evBound e n (fun m => m ≤ n ∧ evBound e n (fun h' => h' ≤ m ∧ evBound e 0 (fun l => l ≤ h' ∧
        c.k (.sl nl (h' - l) ((cs.drop (l * size)).take ((h' - l) * size))
          (match mx with
           | none => (match hi, lo, tl with
             | none, none, tl => tl
             | none, some _, .full => .full
             | _, _, _ => .unk)
           | some _ => if m = h' then .full else .unk))) lo) hi) mx
    | .msl b off n cap => match mx with
      | none => evBound e n (fun h' => h' ≤ cap.getD n ∧ evBound e 0 (fun l => l ≤ h' ∧ c.k (mslCut b off size h' l (cap.getD n) (cap.map (· - l)))) lo) hi
      | some mx => evBound e n (fun m => m ≤ cap.getD n ∧ evBound e n (fun h' => h' ≤ m ∧ evBound e 0 (fun l => l ≤ h' ∧ c.k (mslCut b off size h' l m (some (m - l)))) lo) hi) (some mx)
    | _ => False
def ApF (h : AH) (size bytes : Nat) (x y : AV) [c : KF (AV → Prop)] : Prop := match x with
    | .sl nl n cs .full => cs.length = n * size ∧ rdSl size h y fun m ys => (n + m) * bytes ≤ 140737488355328 ∧ n + m ≤ 140737488355328 ∧
      c.k (.sl (nl && decide (n + m = 0)) (n + m) (cs ++ ys) .unk)
    | _ => False
def ApS (h : AH) (size bytes : Nat) (x y : AV) [c : KF (AV → AH → Prop)] : Prop := match x with
    | .sl nl n cs .full => cs.length = n * size ∧ rdSl size h y fun m ys => (n + m) * bytes ≤ 140737488355328 ∧ n + m ≤ 140737488355328 ∧
      TokG h (nl && decide (n + m = 0)) (n + m) size (cs ++ ys)
    | .sl nl n cs (.tok t) => cs.length = n * size ∧ h.tok t = some (n, size) ∧ rdSl size h y fun m ys => (n + m) * bytes ≤ 140737488355328 ∧ n + m ≤ 140737488355328 ∧
      c.k (.sl (nl && decide (n + m = 0)) (n + m) (cs ++ ys) (.tok t)) (h.setTok t (n + m) size)
    | _ => False
def StA (h : AH) (n : Nat) (a : AV) (xs : List AV) [c : KF (AV → AH → Prop)] : Prop := match a with
    | .ptr b off => ∃ cs, h.blk b = some cs ∧ xs.length = n ∧ allOne xs = true ∧ off + n ≤ cs.length ∧ c.k .undef (h.put b (spl cs off xs))
    | _ => False
def StF (h : AH) (n : Nat) (a : AV) (xs : List AV) [c : KF (AV → AH → Prop)] : Prop := match a with
    | .ptr b 0 => ∃ cs, h.blk b = some cs ∧ cs.length = n ∧ xs.length = n ∧ allOne xs = true ∧ c.k (.sptr xs) (h.del b)
    | _ => False
def CpA (h : AH) (size : Nat) (d s : AV) [c : KF (AV → AH → Prop)] : Prop := match d with
    | .msl b off n _ => ∃ cs, h.blk b = some cs ∧ off + n * size ≤ cs.length ∧ rdSl size h s fun m ys => allOne ys = true ∧
      c.k (.int .i64 (Nat.min m n : Nat)) (h.put b (spl cs off (ys.take (Nat.min m n * size))))
    | _ => False
def MkA (h : AH) (l m : AV) (bytes : Nat) (z : List AV) [c : KF (AV → AH → Prop)] : Prop := match l, m with
    | .int _ l, .int _ m => MakeG h l m bytes z
    | _, _ => False

def MapG (o : Option (List (AV × AV))) [c : KF (List (AV × AV) → Prop)] : Prop := ∃ es, o = some es ∧ c.k es
def FindG (o : Option (Option AV)) [c : KF (Option AV → Prop)] : Prop := ∃ r, o = some r ∧ c.k r
def SiA (v i : AV) [c : KF (AV → Prop)] : Prop := match v, i with
  | .str b, .int _ j => 0 ≤ j ∧ ∃ u, b[j.toNat]? = some u ∧ c.k (.int .u8 u.toNat)
  | _, _ => False
def LkA (h : AH) (kd : Option Nat) (zero : AV) (ok : Bool) (m i : AV) [c : KF (AV → Prop)] : Prop := match m with
  | .map b => ∃ es r, h.mp b = some es ∧ findAV kd i es = some r ∧ c.k (if ok then .tup [r.getD zero, .bool r.isSome] else r.getD zero)
  | _ => False
def MlA (h : AH) (m : AV) [c : KF (AV → Prop)] : Prop := match m with
  | .map b => ∃ es, h.mp b = some es ∧ es.length ≤ 4611686018427387904 ∧ c.k (.int .i64 es.length)
  | _ => False
def MslG (h : AH) (n : Nat) (cells : List AV) [c : KF (AV → AH → Prop)] : Prop := ∀ b, h.blk b = none → c.k (.msl b 0 n none) (h.put b cells)
/-- A new list with room for q elements. -/
def GrowG (h : AH) (n size : Nat) (cells : List AV) [c : KF (AV → AH → Prop)] : Prop := ∀ b q, n ≤ q → h.blk b = none → c.k (.msl b 0 n (some q)) (h.put b (cells ++ List.replicate ((q - n) * size) .undef))
def AmS (h : AH) (size bytes : Nat) (x y : AV) [c : KF (AV → AH → Prop)] : Prop := match x with
    | .sl _ n cs .full => cs.length = n * size ∧ rdSl size h y fun m ys => 0 < m ∧ (n + m) * bytes ≤ 140737488355328 ∧ n + m ≤ 140737488355328 ∧
      ∀ b, h.blk b = none → c.k (.msl b 0 (n + m) none) (h.put b (cs ++ ys))
    | _ => False
def AiS (h : AH) (size bytes : Nat) (x y : AV) [c : KF (AV → AH → Prop)] : Prop := match x with
    | .sl _ n cs .full => cs.length = n * size ∧ rdSl size h y fun m ys => 0 < m ∧ (n + m) * bytes ≤ 140737488355328 ∧ n + m ≤ 140737488355328 ∧
      ∀ b q, n + m ≤ q → h.blk b = none → c.k (.msl b 0 (n + m) (some q)) (h.put b (cs ++ ys ++ List.replicate ((q - (n + m)) * size) .undef))
    | .msl b off n (some q) => rdSl size h y fun m ys => ∃ cs, h.blk b = some cs ∧ (n + m) * bytes ≤ 140737488355328 ∧ n + m ≤ 140737488355328 ∧ off + n * size ≤ cs.length ∧
      (n + m ≤ q → off + (n + m) * size ≤ cs.length ∧ c.k (.msl b off (n + m) (some q)) (h.put b (spl cs (off + n * size) ys))) ∧
      (q < n + m → ∀ b' q', n + m ≤ q' → h.blk b' = none → c.k (.msl b' 0 (n + m) (some q')) (h.put b' ((cs.drop off).take (n * size) ++ ys ++ List.replicate ((q' - (n + m)) * size) .undef)))
    | _ => False
def ClS (h : AH) (size : Nat) (z : List AV) (x : AV) [c : KF (AV → AH → Prop)] : Prop := match x with
    | .msl b off n _ => ∃ cs, h.blk b = some cs ∧ off + n * size ≤ cs.length ∧ c.k (.tup []) (h.put b (spl cs off (List.replicate n z).flatten))
    | _ => False
def NewMG (h : AH) [c : KF (AV → AH → Prop)] : Prop := ∀ b, h.mp b = none → c.k (.map b) (h.putM b [])
def MuS (h : AH) (kd : Option Nat) (m i x : AV) [c : KF (AV → AH → Prop)] : Prop := match m with
    | .map b => ∃ es es', h.mp b = some es ∧ updAV kd i x es = some es' ∧ c.k .undef (h.putM b es')
    | _ => False

section
variable {P : Program} {g : Cfg} {e : Env} {h : AH} {K : AV → Prop} {KS : AV → AH → Prop} {KO : Env → AH → Prop} {Q : Exit → Env → AH → Prop} {A B : Prop} {KB : Bool → Prop} {KN : Nat → Prop} {KR : Nat → List AV → Prop}
theorem LoadG_cons {x : AV} {l : List AV} : LoadG (x :: l) (c := ⟨K⟩) = K x := by simp [LoadG]
theorem LoadN_zero {acc l : List AV} : LoadN 0 acc l (c := ⟨K⟩) = K (.st acc) := by simp [LoadN]
theorem LoadN_cons {n : Nat} {x : AV} {acc l : List AV} : LoadN (n + 1) acc (x :: l) (c := ⟨K⟩) = LoadN n (acc ++ [x]) l (c := ⟨K⟩) := by simp [LoadN]
theorem LdE_one {l : List AV} : LdE none l (c := ⟨K⟩) = LoadG l (c := ⟨K⟩) := propext Iff.rfl
theorem LdE_n {n : Nat} {l : List AV} : LdE (some n) l (c := ⟨K⟩) = LoadN n [] l (c := ⟨K⟩) := propext Iff.rfl
theorem BlkG_some {KC : List AV → Prop} {cs : List AV} : BlkG (some cs) (c := ⟨KC⟩) = KC cs := by simp [BlkG]
theorem CondG_true : CondG true (a := ⟨fun _ => A⟩) (b := ⟨fun _ _ => B⟩) = A := by simp [CondG]
theorem CondG_false : CondG false (a := ⟨fun _ => A⟩) (b := ⟨fun _ _ => B⟩) = B := by simp [CondG]
theorem CondG_dec {p : Prop} [Decidable p] : CondG (decide p) (a := ⟨fun _ => A⟩) (b := ⟨fun _ _ => B⟩) = ((p → A) ∧ (¬p → B)) := by simp [CondG]
theorem CondG_ndec {p : Prop} [Decidable p] : CondG (!decide p) (a := ⟨fun _ => A⟩) (b := ⟨fun _ _ => B⟩) = ((¬p → A) ∧ (p → B)) := by simp [CondG]
theorem CondG_beq {α : Type} [BEq α] [LawfulBEq α] {x y : α} : CondG (x == y) (a := ⟨fun _ => A⟩) (b := ⟨fun _ _ => B⟩) = ((x = y → A) ∧ (x ≠ y → B)) := by simp [CondG]
theorem CondG_nbeq {α : Type} [BEq α] [LawfulBEq α] {x y : α} : CondG (!(x == y)) (a := ⟨fun _ => A⟩) (b := ⟨fun _ _ => B⟩) = ((x ≠ y → A) ∧ (x = y → B)) := by simp [CondG]
theorem CondA_bool {t : Bool} : CondA (.bool t) (a := ⟨fun _ => A⟩) (b := ⟨fun _ _ => B⟩) = CondG t (a := ⟨fun _ => A⟩) (b := ⟨fun _ _ => B⟩) := propext Iff.rfl
theorem GuardA_tup {want : Bool} {D : Prop} : GuardA (.tup []) want (a := ⟨fun _ => A⟩) (b := ⟨fun _ _ => B⟩) (c := ⟨fun _ _ => D⟩) = D := propext Iff.rfl
theorem GuardA_true {t : Bool} {D : Prop} : GuardA (.bool t) true (a := ⟨fun _ => A⟩) (b := ⟨fun _ _ => B⟩) (c := ⟨fun _ _ => D⟩) = CondG t (a := ⟨fun _ => A⟩) (b := ⟨fun _ _ => B⟩) := by simp [GuardA, CondG]
theorem GuardA_false {t : Bool} {D : Prop} : GuardA (.bool t) false (a := ⟨fun _ => A⟩) (b := ⟨fun _ _ => B⟩) (c := ⟨fun _ _ => D⟩) = CondG t (a := ⟨fun _ => B⟩) (b := ⟨fun _ _ => A⟩) := by cases t <;> simp [GuardA, CondG]
theorem CondG.mk {t : Bool} (ha : t = true → A) (hb : t = false → B) : CondG t (a := ⟨fun _ => A⟩) (b := ⟨fun _ _ => B⟩) := ⟨ha, hb⟩

theorem tq_n {K : Env → AH → Prop} {Q : Exit → Env → AH → Prop} {e : Env} {h : AH} : thenQ K Q .normal e h = K e h := propext Iff.rfl
theorem tq_e {K : Env → AH → Prop} {Q : Exit → Env → AH → Prop} {i : Nat} {e : Env} {h : AH} : thenQ K Q (.exit i) e h = Q (.exit i) e h := propext Iff.rfl
theorem tq_r {K : Env → AH → Prop} {Q : Exit → Env → AH → Prop} {e : Env} {h : AH} : thenQ K Q .ret e h = Q .ret e h := propext Iff.rfl
theorem bq_n {i : Nat} {Q : Exit → Env → AH → Prop} {e : Env} {h : AH} : blockQ i Q .normal e h = Q .normal e h := propext Iff.rfl
theorem bq_e {i j : Nat} {Q : Exit → Env → AH → Prop} {e : Env} {h : AH} : blockQ i Q (.exit j) e h = if j = i then Q .normal e h else Q (.exit j) e h := propext Iff.rfl
theorem bq_r {i : Nat} {Q : Exit → Env → AH → Prop} {e : Env} {h : AH} : blockQ i Q .ret e h = Q .ret e h := propext Iff.rfl
theorem rq_n {res : List CRes} {R : AV → AH → Prop} {e : Env} {h : AH} : retQ res R .normal e h = evRes e h res fun vs => ∃ r' h', RGh (packed vs) h r' h' ∧ R r' h' := propext Iff.rfl
theorem rq_r {res : List CRes} {R : AV → AH → Prop} {e : Env} {h : AH} : retQ res R .ret e h = evRes e h res fun vs => ∃ r' h', RGh (packed vs) h r' h' ∧ R r' h' := propext Iff.rfl
theorem rq_e {res : List CRes} {R : AV → AH → Prop} {i : Nat} {e : Env} {h : AH} : retQ res R (.exit i) e h = False := propext Iff.rfl
theorem vg_skip : VG P g .skip e h (q := ⟨Q⟩) = Q .normal e h := propext Iff.rfl
theorem vg_seq {a b : C} : VG P g (.seq a b) e h (q := ⟨Q⟩) = VG P g a e h (q := ⟨thenQ (fun e' h' => VG P g b e' h' (q := ⟨Q⟩)) Q⟩) := propext Iff.rfl
theorem vg_cond {c : Arg} {a b : C} : VG P g (.cond c a b) e h (q := ⟨Q⟩) = CondA (c.ev e) (a := ⟨fun _ => VG P g a e h (q := ⟨Q⟩)⟩) (b := ⟨fun _ _ => VG P g b e h (q := ⟨Q⟩)⟩) := by
  simp only [VG, C.vc, CondA, CondG]
theorem vg_block {id : Nat} {c : C} : VG P g (.block id c) e h (q := ⟨Q⟩) = VG P g c e h (q := ⟨blockQ id Q⟩) := propext Iff.rfl
theorem vg_loop {c : C} : VG P g (.loop c) e h (q := ⟨Q⟩) = LoopG P g c e h (q := ⟨Q⟩) := propext Iff.rfl
theorem vg_exit {id : Nat} : VG P g (.exit id) e h (q := ⟨Q⟩) = Q (.exit id) e h := propext Iff.rfl
theorem vg_ret : VG P g .ret e h (q := ⟨Q⟩) = Q .ret e h := propext Iff.rfl
theorem vg_reg {ops : List IOp} : VG P g (.reg ops) e h (q := ⟨Q⟩) = OG P ops e h (c := ⟨fun e' h' => Q .normal (e'.keep g.L) h'⟩) := propext Iff.rfl
theorem og_nil : OG P [] e h (c := ⟨KO⟩) = KO e h := propext Iff.rfl
theorem og_f {d : Option Nat} {op : AOp} {r : List IOp} : OG P (⟨d, op, none, 0⟩ :: r) e h (c := ⟨KO⟩) = FG P op e h (c := ⟨fun v => OG P r (e.put d v) h (c := ⟨KO⟩)⟩) := propext Iff.rfl
theorem og_s1 {d : Option Nat} {op : AOp} {r : List IOp} : OG P (⟨d, op, none, 1⟩ :: r) e h (c := ⟨KO⟩) = SG P op e h (c := ⟨fun v h' => OG P r (e.put d v) h' (c := ⟨KO⟩)⟩) := propext Iff.rfl
theorem og_s2 {d : Option Nat} {op : AOp} {r : List IOp} : OG P (⟨d, op, none, 2⟩ :: r) e h (c := ⟨KO⟩) = SG P op e h (c := ⟨fun v h' => OG P r (e.put d v) h' (c := ⟨KO⟩)⟩) := propext Iff.rfl
theorem og_guard {d : Option Nat} {op : AOp} {c t : Nat} {want : Bool} {r : List IOp} : OG P (⟨d, op, some (t, want), c⟩ :: r) e h (c := ⟨KO⟩) =
    GuardA (e.get t) want (a := ⟨fun _ => OG P (⟨d, op, none, c⟩ :: r) ((t, .bool want) :: e) h (c := ⟨KO⟩)⟩)
      (b := ⟨fun _ _ => OG P r (Env.put ((t, .bool (!want)) :: e) d (.tup [])) h (c := ⟨KO⟩)⟩) (c := ⟨fun _ _ => OG P r (e.put d (.tup [])) h (c := ⟨KO⟩)⟩) := by
  simp only [OG, evOps, GuardA, evOp]
  split <;> simp_all

theorem fg_mv {x : Arg} : FG P (.mv x) e h (c := ⟨K⟩) = K (x.ev e) := propext Iff.rfl
theorem fg_pick {c x y : Arg} : FG P (.pick c x y) e h (c := ⟨K⟩) = CondA (c.ev e) (a := ⟨fun _ => K (x.ev e)⟩) (b := ⟨fun _ _ => K (y.ev e)⟩) := by
  simp only [FG, evF]; generalize c.ev e = v; cases v <;> exact propext Iff.rfl
theorem fg_bin {op : BinOp} {x y : Arg} : FG P (.bin op x y) e h (c := ⟨K⟩) = BG op (x.ev e) (y.ev e) (c := ⟨K⟩) := propext Iff.rfl
theorem bg_int {op : BinOp} {k k' : IntKind} {a b : Int} : BG op (.int k a) (.int k' b) (c := ⟨K⟩) = IG op k k' a b (c := ⟨K⟩) := propext Iff.rfl
theorem bg_str {a b : ByteArray} {op : BinOp} : BG op (.str a) (.str b) (c := ⟨K⟩) = (match op with
    | .eql => K (.bool (a.toList == b.toList))
    | .neq => K (.bool (!(a.toList == b.toList)))
    | .lss => K (.bool (Op.bytesLess a.toList b.toList))
    | _ => False) := propext Iff.rfl
section
variable {k k' : IntKind} {a b : Int}
theorem ig_shl : IG .shl k k' a b (c := ⟨K⟩) = (0 ≤ b ∧ K (.int k (k.wrap (a * 2 ^ (Nat.min b.toNat k.bits))))) := propext Iff.rfl
theorem ig_shr : IG .shr k k' a b (c := ⟨K⟩) = (0 ≤ b ∧ K (.int k (a.fdiv (2 ^ (Nat.min b.toNat k.bits))))) := propext Iff.rfl
theorem ig_add : IG .add k k' a b (c := ⟨K⟩) = (k = k' ∧ InR k (a + b) ∧ K (.int k (a + b))) := propext Iff.rfl
theorem ig_sub : IG .sub k k' a b (c := ⟨K⟩) = (k = k' ∧ InR k (a - b) ∧ K (.int k (a - b))) := propext Iff.rfl
theorem ig_mul : IG .mul k k' a b (c := ⟨K⟩) = (k = k' ∧ InR k (a * b) ∧ K (.int k (a * b))) := propext Iff.rfl
theorem ig_quo : IG .quo k k' a b (c := ⟨K⟩) = (k = k' ∧ b ≠ 0 ∧ InR k (a.tdiv b) ∧ K (.int k (a.tdiv b))) := propext Iff.rfl
theorem ig_rem : IG .rem k k' a b (c := ⟨K⟩) = (k = k' ∧ b ≠ 0 ∧ K (.int k (a.tmod b))) := propext Iff.rfl
theorem ig_eql : IG .eql k k' a b (c := ⟨K⟩) = (k = k' ∧ K (.bool (decide (a = b)))) := propext Iff.rfl
theorem ig_neq : IG .neq k k' a b (c := ⟨K⟩) = (k = k' ∧ K (.bool (!decide (a = b)))) := propext Iff.rfl
theorem ig_lss : IG .lss k k' a b (c := ⟨K⟩) = (k = k' ∧ K (.bool (decide (a < b)))) := propext Iff.rfl
theorem ig_leq : IG .leq k k' a b (c := ⟨K⟩) = (k = k' ∧ K (.bool (decide (a ≤ b)))) := propext Iff.rfl
theorem ig_gtr : IG .gtr k k' a b (c := ⟨K⟩) = (k = k' ∧ K (.bool (decide (b < a)))) := propext Iff.rfl
theorem ig_geq : IG .geq k k' a b (c := ⟨K⟩) = (k = k' ∧ K (.bool (decide (b ≤ a)))) := propext Iff.rfl
theorem ig_and : IG .and k k' a b (c := ⟨K⟩) = (k = k' ∧ K (.int k (bitop .and k a b))) := propext Iff.rfl
theorem ig_or : IG .or k k' a b (c := ⟨K⟩) = (k = k' ∧ K (.int k (bitop .or k a b))) := propext Iff.rfl
theorem ig_xor : IG .xor k k' a b (c := ⟨K⟩) = (k = k' ∧ K (.int k (bitop .xor k a b))) := propext Iff.rfl
theorem ig_andNot : IG .andNot k k' a b (c := ⟨K⟩) = (k = k' ∧ K (.int k (bitop .andNot k a b))) := propext Iff.rfl
end
theorem fg_eqv {k : EqK} {neg : Bool} {nf : Nat} {x y : Arg} : FG P (.eqv k neg nf x y) e h (c := ⟨K⟩) = QG k nf (x.ev e) (y.ev e) (c := ⟨fun b => K (.bool (if neg then !b else b))⟩) := propext Iff.rfl
theorem qg_bool {nf : Nat} {a b : Bool} : QG .bool nf (.bool a) (.bool b) (c := ⟨KB⟩) = KB (a == b) := propext Iff.rfl
theorem qg_sl {nf n : Nat} {nl : Bool} {cs : List AV} {tl tl' : Tail} : QG .slice nf (.sl nl n cs tl) (.sl true 0 [] tl') (c := ⟨KB⟩) = KB nl := propext Iff.rfl
theorem qg_msl {nf n b off : Nat} {cap : Option Nat} {tl' : Tail} : QG .slice nf (.msl b off n cap) (.sl true 0 [] tl') (c := ⟨KB⟩) = KB false := propext Iff.rfl
theorem qg_fn {nf : Nat} {f : FuncId} {caps : List AV} : QG .func nf (.fn f caps) .nilfn (c := ⟨KB⟩) = KB false := propext Iff.rfl
theorem qg_nilfn {nf : Nat} : QG .func nf .nilfn .nilfn (c := ⟨KB⟩) = KB true := propext Iff.rfl
theorem qg_ptr {nf b off : Nat} : QG .ptr nf (.ptr b off) .nilp (c := ⟨KB⟩) = KB false := propext Iff.rfl
theorem qg_sptr {nf : Nat} {cs : List AV} : QG .ptr nf (.sptr cs) .nilp (c := ⟨KB⟩) = KB false := propext Iff.rfl
theorem qg_nilp {nf : Nat} : QG .ptr nf .nilp .nilp (c := ⟨KB⟩) = KB true := propext Iff.rfl
theorem qg_ints {nf : Nat} {xs ys : List AV} : QG .ints nf (.st xs) (.st ys) (c := ⟨KB⟩) = ∃ b, xs.length = nf ∧ eqCells xs ys = some b ∧ KB b := propext Iff.rfl
theorem fg_un {op : UnOp} {x : Arg} : FG P (.un op x) e h (c := ⟨K⟩) = UG op (x.ev e) (c := ⟨K⟩) := propext Iff.rfl
theorem ug_not {b : Bool} : UG .not (.bool b) (c := ⟨K⟩) = K (.bool (!b)) := propext Iff.rfl
theorem ug_neg {k : IntKind} {n : Int} : UG .neg (.int k n) (c := ⟨K⟩) = (InR k (-n) ∧ K (.int k (-n))) := propext Iff.rfl
theorem ug_xor {k : IntKind} {n : Int} : UG .xor (.int k n) (c := ⟨K⟩) = K (.int k (bitop .xor k (if k.signed then -1 else k.max) n)) := propext Iff.rfl
theorem fg_conv {k : IntKind} {x : Arg} : FG P (.conv k x) e h (c := ⟨K⟩) = CvA k (x.ev e) (c := ⟨K⟩) := propext Iff.rfl
theorem cvA_int {k k' : IntKind} {n : Int} : CvA k (.int k' n) (c := ⟨K⟩) = K (.int k (k.wrap n)) := propext Iff.rfl
theorem fg_load {sz : Option Nat} {x : Arg} : FG P (.load sz x) e h (c := ⟨K⟩) = LdA h sz (x.ev e) (c := ⟨K⟩) := propext Iff.rfl
theorem ldA_ptr {sz : Option Nat} {b off : Nat} : LdA h sz (.ptr b off) (c := ⟨K⟩) = BlkG (h.blk b) (c := ⟨fun cs => LdE sz (cs.drop off) (c := ⟨K⟩)⟩) := propext Iff.rfl
theorem ldA_sptr {sz : Option Nat} {cs : List AV} : LdA h sz (.sptr cs) (c := ⟨K⟩) = LdE sz cs (c := ⟨K⟩) := propext Iff.rfl
theorem fg_loadF {sz : Option Nat} {x : Arg} : FG P (.loadF sz x) e h (c := ⟨K⟩) = LdX sz (x.ev e) (c := ⟨K⟩) := propext Iff.rfl
theorem ldX_sptr {sz : Option Nat} {cs : List AV} : LdX sz (.sptr cs) (c := ⟨K⟩) = LdE sz cs (c := ⟨K⟩) := propext Iff.rfl
theorem fg_fieldAddr {off : Nat} {x : Arg} : FG P (.fieldAddr off x) e h (c := ⟨K⟩) = FaA off (x.ev e) (c := ⟨K⟩) := propext Iff.rfl
theorem faA_ptr {off b o : Nat} : FaA off (.ptr b o) (c := ⟨K⟩) = K (.ptr b (o + off)) := propext Iff.rfl
theorem faA_sptr {off : Nat} {cs : List AV} : FaA off (.sptr cs) (c := ⟨K⟩) = K (.sptr (cs.drop off)) := propext Iff.rfl
theorem fg_field {off : Nat} {sz : Option Nat} {x : Arg} : FG P (.field off sz x) e h (c := ⟨K⟩) = FdA off sz (x.ev e) (c := ⟨K⟩) := propext Iff.rfl
theorem fdA_st {off : Nat} {sz : Option Nat} {cs : List AV} : FdA off sz (.st cs) (c := ⟨K⟩) = LdE sz (cs.drop off) (c := ⟨K⟩) := propext Iff.rfl
theorem fg_indexAddr {size : Nat} {x i : Arg} : FG P (.indexAddr size x i) e h (c := ⟨K⟩) = IxA size (x.ev e) (i.ev e) (c := ⟨K⟩) := propext Iff.rfl
theorem ixA_sl {size n : Nat} {nl : Bool} {cs : List AV} {tl : Tail} {k : IntKind} {j : Int} : IxA size (.sl nl n cs tl) (.int k j) (c := ⟨K⟩) = (0 ≤ j ∧ j < n ∧ K (.sptr (cs.drop (j.toNat * size)))) := propext Iff.rfl
theorem ixA_msl {size b off n : Nat} {cap : Option Nat} {k : IntKind} {j : Int} : IxA size (.msl b off n cap) (.int k j) (c := ⟨K⟩) = (0 ≤ j ∧ j < n ∧ K (.ptr b (off + j.toNat * size))) := propext Iff.rfl
theorem fg_indexArr {len size : Nat} {x i : Arg} : FG P (.indexArr len size x i) e h (c := ⟨K⟩) = IrA len size (x.ev e) (i.ev e) (c := ⟨K⟩) := propext Iff.rfl
theorem irA_ptr {len size b off : Nat} {k : IntKind} {j : Int} : IrA len size (.ptr b off) (.int k j) (c := ⟨K⟩) = (0 ≤ j ∧ j < len ∧ K (.ptr b (off + j.toNat * size))) := propext Iff.rfl
theorem irA_sptr {len size : Nat} {cs : List AV} {k : IntKind} {j : Int} : IrA len size (.sptr cs) (.int k j) (c := ⟨K⟩) = (0 ≤ j ∧ j < len ∧ K (.sptr (cs.drop (j.toNat * size)))) := propext Iff.rfl
theorem fg_len {x : Arg} : FG P (.len x) e h (c := ⟨K⟩) = LnA (x.ev e) (c := ⟨K⟩) := propext Iff.rfl
theorem lnA_sl {n : Nat} {nl : Bool} {cs : List AV} {tl : Tail} : LnA (.sl nl n cs tl) (c := ⟨K⟩) = K (.int .i64 n) := propext Iff.rfl
theorem lnA_msl {b off n : Nat} {cap : Option Nat} : LnA (.msl b off n cap) (c := ⟨K⟩) = K (.int .i64 n) := propext Iff.rfl
theorem fg_max {x y : Arg} : FG P (.max x y) e h (c := ⟨K⟩) = MxA false (x.ev e) (y.ev e) (c := ⟨K⟩) := propext Iff.rfl
theorem fg_min {x y : Arg} : FG P (.min x y) e h (c := ⟨K⟩) = MxA true (x.ev e) (y.ev e) (c := ⟨K⟩) := propext Iff.rfl
theorem mxA_max {k k' : IntKind} {a b : Int} : MxA false (.int k a) (.int k' b) (c := ⟨K⟩) = (k = k' ∧ K (.int k (Max.max a b))) := propext Iff.rfl
theorem mxA_min {k k' : IntKind} {a b : Int} : MxA true (.int k a) (.int k' b) (c := ⟨K⟩) = (k = k' ∧ K (.int k (Min.min a b))) := propext Iff.rfl
theorem fg_slice {size : Nat} {x : Arg} {lo hi mx : Option Arg} : FG P (.slice size x lo hi mx) e h (c := ⟨K⟩) = SlA e size (x.ev e) lo hi mx (c := ⟨K⟩) := propext Iff.rfl
theorem dg_none {d : Nat} : DG e d none (c := ⟨KN⟩) = KN d := propext Iff.rfl
theorem dg_some {d : Nat} {x : Arg} : DG e d (some x) (c := ⟨KN⟩) = DA (x.ev e) (c := ⟨KN⟩) := propext Iff.rfl
theorem dA_int {k : IntKind} {n : Int} : DA (.int k n) (c := ⟨KN⟩) = (0 ≤ n ∧ KN n.toNat) := propext Iff.rfl
theorem slA_hl {size n : Nat} {nl : Bool} {cs : List AV} {tl : Tail} {lo : Option Arg} {x : Arg} : SlA e size (.sl nl n cs tl) lo (some x) none (c := ⟨K⟩) =
    DG e n (some x) (c := ⟨fun h' => h' ≤ n ∧ DG e 0 lo (c := ⟨fun l => l ≤ h' ∧ K (.sl nl (h' - l) ((cs.drop (l * size)).take ((h' - l) * size)) .unk)⟩)⟩) := by
  simp only [SlA, DG, evBound, Nat.le_refl, true_and]
theorem slA_l {size n : Nat} {nl : Bool} {cs : List AV} {tl : Tail} {x : Arg} : SlA e size (.sl nl n cs tl) (some x) none none (c := ⟨K⟩) =
    DG e 0 (some x) (c := ⟨fun l => l ≤ n ∧ K (.sl nl (n - l) ((cs.drop (l * size)).take ((n - l) * size)) (match tl with | .full => .full | _ => .unk))⟩) := by
  simp only [SlA, DG, evBound, Nat.le_refl, true_and]
  cases tl <;> exact propext Iff.rfl
theorem slA_m {size n : Nat} {nl : Bool} {cs : List AV} {tl : Tail} {lo : Option Arg} {x y : Arg} : SlA e size (.sl nl n cs tl) lo (some x) (some y) (c := ⟨K⟩) =
    DG e n (some y) (c := ⟨fun m => m ≤ n ∧ DG e n (some x) (c := ⟨fun h' => h' ≤ m ∧ DG e 0 lo (c := ⟨fun l => l ≤ h' ∧ K (.sl nl (h' - l) ((cs.drop (l * size)).take ((h' - l) * size)) (if m = h' then .full else .unk))⟩)⟩)⟩) := by
  simp only [SlA, DG]
theorem slA_msl {size b off n : Nat} {cap : Option Nat} {lo hi : Option Arg} : SlA e size (.msl b off n cap) lo hi none (c := ⟨K⟩) =
    DG e n hi (c := ⟨fun h' => h' ≤ cap.getD n ∧ DG e 0 lo (c := ⟨fun l => l ≤ h' ∧ K (mslCut b off size h' l (cap.getD n) (cap.map (· - l)))⟩)⟩) := propext Iff.rfl
theorem slA_mslm {size b off n : Nat} {cap : Option Nat} {lo hi : Option Arg} {y : Arg} : SlA e size (.msl b off n cap) lo hi (some y) (c := ⟨K⟩) =
    DG e n (some y) (c := ⟨fun m => m ≤ cap.getD n ∧ DG e n hi (c := ⟨fun h' => h' ≤ m ∧ DG e 0 lo (c := ⟨fun l => l ≤ h' ∧ K (mslCut b off size h' l m (some (m - l)))⟩)⟩)⟩) := propext Iff.rfl
theorem mslCut_zero {b off size h' m : Nat} {cap : Option Nat} : mslCut b off size h' 0 m cap = .msl b (off + 0 * size) (h' - 0) cap := by simp [mslCut]
theorem mslCut_lt {b off size h' l m : Nat} {cap : Option Nat} (hl : l < m) : mslCut b off size h' l m cap = .msl b (off + l * size) (h' - l) cap := by simp [mslCut, hl]
theorem fg_build {zero : List AV} {parts : List (Nat × Nat × Arg)} : FG P (.build zero parts) e h (c := ⟨K⟩) = (partsOK e parts = true ∧ K (.st (fillAV e parts zero))) := propext Iff.rfl
theorem fg_buildSlice {n size : Nat} {zero : List AV} {parts : List (Nat × Nat × Arg)} : FG P (.buildSlice n size zero parts) e h (c := ⟨K⟩) = (partsOK e parts = true ∧ K (.sl false n (fillAV e parts (List.replicate n zero).flatten) .full)) := propext Iff.rfl
theorem fg_append {size bytes : Nat} {x y : Arg} : FG P (.append size bytes x y) e h (c := ⟨K⟩) = ApF h size bytes (x.ev e) (y.ev e) (c := ⟨K⟩) := propext Iff.rfl
theorem apF_full {size bytes n : Nat} {nl : Bool} {cs : List AV} {y : AV} : ApF h size bytes (.sl nl n cs .full) y (c := ⟨K⟩) = (cs.length = n * size ∧ RG size h y (c := ⟨fun m ys => (n + m) * bytes ≤ 140737488355328 ∧ n + m ≤ 140737488355328 ∧
      K (.sl (nl && decide (n + m = 0)) (n + m) (cs ++ ys) .unk)⟩)) := propext Iff.rfl
theorem rg_sl {size m : Nat} {nl : Bool} {ys : List AV} {tl : Tail} : RG size h (.sl nl m ys tl) (c := ⟨KR⟩) = (ys.length = m * size ∧ KR m ys) := propext Iff.rfl
theorem rg_msl {size m b off : Nat} {cap : Option Nat} : RG size h (.msl b off m cap) (c := ⟨KR⟩) = BlkG (h.blk b) (c := ⟨fun cs => off + m * size ≤ cs.length ∧ KR m ((cs.drop off).take (m * size))⟩) := propext Iff.rfl
theorem fg_makeFunc {f : FuncId} {caps : List Arg} : FG P (.makeFunc f caps) e h (c := ⟨K⟩) = K (.fn f (caps.map (Arg.ev e))) := propext Iff.rfl
theorem fg_extract {x : Arg} {i : Nat} : FG P (.extract x i) e h (c := ⟨K⟩) = ExA i (x.ev e) (c := ⟨K⟩) := by
  simp only [FG, evF, ExA]; generalize x.ev e = v; cases v <;> simp [LoadG]
theorem exA_tup {vs : List AV} {i : Nat} : ExA i (.tup vs) (c := ⟨K⟩) = LoadG (vs.drop i) (c := ⟨K⟩) := propext Iff.rfl
theorem fg_nilCheck {x : Arg} : FG P (.nilCheck x) e h (c := ⟨K⟩) = NcA (x.ev e) (c := ⟨K⟩) := propext Iff.rfl
theorem ncA_ptr {b o : Nat} : NcA (.ptr b o) (c := ⟨K⟩) = K (.ptr b o) := propext Iff.rfl
theorem ncA_sptr {cs : List AV} : NcA (.sptr cs) (c := ⟨K⟩) = K (.sptr cs) := propext Iff.rfl
theorem ncA_fn {f : FuncId} {caps : List AV} : NcA (.fn f caps) (c := ⟨K⟩) = K (.fn f caps) := propext Iff.rfl
theorem fg_call {f : FuncId} {args : List Arg} : FG P (.call f args) e h (c := ⟨K⟩) = CallG P f (args.map (Arg.ev e)) h (c := ⟨K⟩) := propext Iff.rfl
theorem fg_callv {g : Arg} {args : List Arg} : FG P (.callv g args) e h (c := ⟨K⟩) = CaA P (g.ev e) (args.map (Arg.ev e)) h (c := ⟨K⟩) := propext Iff.rfl
theorem caA_fn {f : FuncId} {caps args : List AV} : CaA P (.fn f caps) args h (c := ⟨K⟩) = CallG P f (args ++ caps) h (c := ⟨K⟩) := propext Iff.rfl

theorem mapG_some {KC : List (AV × AV) → Prop} {es : List (AV × AV)} : MapG (some es) (c := ⟨KC⟩) = KC es := by simp [MapG]
theorem findG_some {KC : Option AV → Prop} {r : Option AV} : FindG (some r) (c := ⟨KC⟩) = KC r := by simp [FindG]
theorem fg_strIndex {x i : Arg} : FG P (.strIndex x i) e h (c := ⟨K⟩) = SiA (x.ev e) (i.ev e) (c := ⟨K⟩) := propext Iff.rfl
theorem siA_str {b : ByteArray} {k : IntKind} {j : Int} : SiA (.str b) (.int k j) (c := ⟨K⟩) = (0 ≤ j ∧ ∃ u, b[j.toNat]? = some u ∧ K (.int .u8 u.toNat)) := propext Iff.rfl
theorem fg_lookup {kd : Option Nat} {z : AV} {ok : Bool} {m i : Arg} : FG P (.lookup kd z ok m i) e h (c := ⟨K⟩) = LkA h kd z ok (m.ev e) (i.ev e) (c := ⟨K⟩) := propext Iff.rfl
theorem lkA_ok {kd : Option Nat} {z i : AV} {b : Nat} : LkA h kd z true (.map b) i (c := ⟨K⟩) = MapG (h.mp b) (c := ⟨fun es => FindG (findAV kd i es) (c := ⟨fun r => K (.tup [r.getD z, .bool r.isSome])⟩)⟩) := by
  simp only [LkA, MapG, FindG]; exact propext ⟨fun ⟨es, r, h1, h2, h3⟩ => ⟨es, h1, r, h2, h3⟩, fun ⟨es, h1, r, h2, h3⟩ => ⟨es, r, h1, h2, h3⟩⟩
theorem lkA_one {kd : Option Nat} {z i : AV} {b : Nat} : LkA h kd z false (.map b) i (c := ⟨K⟩) = MapG (h.mp b) (c := ⟨fun es => FindG (findAV kd i es) (c := ⟨fun r => K (r.getD z)⟩)⟩) := by
  simp only [LkA, MapG, FindG]; exact propext ⟨fun ⟨es, r, h1, h2, h3⟩ => ⟨es, h1, r, h2, h3⟩, fun ⟨es, h1, r, h2, h3⟩ => ⟨es, r, h1, h2, h3⟩⟩
theorem fg_mlen {m : Arg} : FG P (.mlen m) e h (c := ⟨K⟩) = MlA h (m.ev e) (c := ⟨K⟩) := propext Iff.rfl
theorem mlA_map {b : Nat} : MlA h (.map b) (c := ⟨K⟩) = MapG (h.mp b) (c := ⟨fun es => es.length ≤ 4611686018427387904 ∧ K (.int .i64 es.length)⟩) := propext Iff.rfl
theorem sg_appendM {size bytes : Nat} {x y : Arg} : SG P (.appendM size bytes x y) e h (c := ⟨KS⟩) = AmS h size bytes (x.ev e) (y.ev e) (c := ⟨KS⟩) := propext Iff.rfl
theorem amS_full {size bytes n : Nat} {nl : Bool} {cs : List AV} {y : AV} : AmS h size bytes (.sl nl n cs .full) y (c := ⟨KS⟩) = (cs.length = n * size ∧ RG size h y (c := ⟨fun m ys => 0 < m ∧ (n + m) * bytes ≤ 140737488355328 ∧ n + m ≤ 140737488355328 ∧
      MslG h (n + m) (cs ++ ys) (c := ⟨KS⟩)⟩)) := propext Iff.rfl
theorem sg_appendI {size bytes : Nat} {x y : Arg} : SG P (.appendI size bytes x y) e h (c := ⟨KS⟩) = AiS h size bytes (x.ev e) (y.ev e) (c := ⟨KS⟩) := propext Iff.rfl
theorem aiS_full {size bytes n : Nat} {nl : Bool} {cs : List AV} {y : AV} : AiS h size bytes (.sl nl n cs .full) y (c := ⟨KS⟩) = (cs.length = n * size ∧ RG size h y (c := ⟨fun m ys => 0 < m ∧ (n + m) * bytes ≤ 140737488355328 ∧ n + m ≤ 140737488355328 ∧
      GrowG h (n + m) size (cs ++ ys) (c := ⟨KS⟩)⟩)) := propext Iff.rfl
theorem aiS_msl {size bytes b off n q : Nat} {y : AV} : AiS h size bytes (.msl b off n (some q)) y (c := ⟨KS⟩) = RG size h y (c := ⟨fun m ys => BlkG (h.blk b) (c := ⟨fun cs => (n + m) * bytes ≤ 140737488355328 ∧ n + m ≤ 140737488355328 ∧ off + n * size ≤ cs.length ∧
      (n + m ≤ q → off + (n + m) * size ≤ cs.length ∧ KS (.msl b off (n + m) (some q)) (h.put b (spl cs (off + n * size) ys))) ∧
      (q < n + m → GrowG h (n + m) size ((cs.drop off).take (n * size) ++ ys) (c := ⟨KS⟩))⟩)⟩) := propext Iff.rfl
theorem sg_clear {size : Nat} {z : List AV} {x : Arg} : SG P (.clear size z x) e h (c := ⟨KS⟩) = ClS h size z (x.ev e) (c := ⟨KS⟩) := propext Iff.rfl
theorem clS_msl {size b off n : Nat} {cap : Option Nat} {z : List AV} : ClS h size z (.msl b off n cap) (c := ⟨KS⟩) = BlkG (h.blk b) (c := ⟨fun cs => off + n * size ≤ cs.length ∧ KS (.tup []) (h.put b (spl cs off (List.replicate n z).flatten))⟩) := propext Iff.rfl
theorem sg_makeMap : SG P .makeMap e h (c := ⟨KS⟩) = NewMG h (c := ⟨KS⟩) := propext Iff.rfl
theorem sg_mapUpdate {kd : Option Nat} {m i x : Arg} : SG P (.mapUpdate kd m i x) e h (c := ⟨KS⟩) = MuS h kd (m.ev e) (i.ev e) (x.ev e) (c := ⟨KS⟩) := propext Iff.rfl
theorem muS_map {kd : Option Nat} {b : Nat} {i x : AV} : MuS h kd (.map b) i x (c := ⟨KS⟩) = MapG (h.mp b) (c := ⟨fun es => MapG (updAV kd i x es) (c := ⟨fun es' => KS .undef (h.putM b es')⟩)⟩) := by
  simp only [MuS, MapG]; exact propext ⟨fun ⟨es, r, h1, h2, h3⟩ => ⟨es, h1, r, h2, h3⟩, fun ⟨es, h1, r, h2, h3⟩ => ⟨es, r, h1, h2, h3⟩⟩

theorem sg_alloc {z : List AV} : SG P (.alloc z) e h (c := ⟨KS⟩) = AllocG h z (c := ⟨KS⟩) := propext Iff.rfl
theorem sg_box {x : Arg} : SG P (.box x) e h (c := ⟨KS⟩) = ((x.ev e).cells.length > 0 ∧ allOne (x.ev e).cells = true ∧ AllocG h (x.ev e).cells (c := ⟨KS⟩)) := propext Iff.rfl
theorem sg_make {size bytes : Nat} {z : List AV} {l m : Arg} : SG P (.makeSlice size bytes z l m) e h (c := ⟨KS⟩) = MkA h (l.ev e) (m.ev e) bytes z (c := ⟨KS⟩) := propext Iff.rfl
theorem mkA_int {k k' : IntKind} {l m : Int} {bytes : Nat} {z : List AV} : MkA h (.int k l) (.int k' m) bytes z (c := ⟨KS⟩) = MakeG h l m bytes z (c := ⟨KS⟩) := propext Iff.rfl
theorem sg_append {size bytes : Nat} {x y : Arg} : SG P (.append size bytes x y) e h (c := ⟨KS⟩) = ApS h size bytes (x.ev e) (y.ev e) (c := ⟨KS⟩) := propext Iff.rfl
theorem apS_full {size bytes n : Nat} {nl : Bool} {cs : List AV} {y : AV} : ApS h size bytes (.sl nl n cs .full) y (c := ⟨KS⟩) = (cs.length = n * size ∧ RG size h y (c := ⟨fun m ys => (n + m) * bytes ≤ 140737488355328 ∧ n + m ≤ 140737488355328 ∧
      TokG h (nl && decide (n + m = 0)) (n + m) size (cs ++ ys) (c := ⟨KS⟩)⟩)) := propext Iff.rfl
theorem apS_tok {size bytes n t : Nat} {nl : Bool} {cs : List AV} {y : AV} : ApS h size bytes (.sl nl n cs (.tok t)) y (c := ⟨KS⟩) = (cs.length = n * size ∧ h.tok t = some (n, size) ∧ RG size h y (c := ⟨fun m ys => (n + m) * bytes ≤ 140737488355328 ∧ n + m ≤ 140737488355328 ∧
      KS (.sl (nl && decide (n + m = 0)) (n + m) (cs ++ ys) (.tok t)) (h.setTok t (n + m) size)⟩)) := propext Iff.rfl
theorem sg_store {n : Nat} {a x : Arg} : SG P (.store n a x) e h (c := ⟨KS⟩) = StA h n (a.ev e) (x.ev e).cells (c := ⟨KS⟩) := propext Iff.rfl
theorem stA_ptr {n b off : Nat} {xs : List AV} : StA h n (.ptr b off) xs (c := ⟨KS⟩) = BlkG (h.blk b) (c := ⟨fun cs => xs.length = n ∧ allOne xs = true ∧ off + n ≤ cs.length ∧ KS .undef (h.put b (spl cs off xs))⟩) := propext Iff.rfl
theorem sg_storeF {n : Nat} {a x : Arg} : SG P (.storeF n a x) e h (c := ⟨KS⟩) = StF h n (a.ev e) (x.ev e).cells (c := ⟨KS⟩) := propext Iff.rfl
theorem stF_ptr {n b : Nat} {xs : List AV} : StF h n (.ptr b 0) xs (c := ⟨KS⟩) = BlkG (h.blk b) (c := ⟨fun cs => cs.length = n ∧ xs.length = n ∧ allOne xs = true ∧ KS (.sptr xs) (h.del b)⟩) := propext Iff.rfl
theorem fg_boxF {n : Option Nat} {x : Arg} : FG P (.boxF n x) e h (c := ⟨K⟩) = (lenOK n (x.ev e).cells = true ∧ allOne (x.ev e).cells = true ∧ K (.sptr (x.ev e).cells)) := propext Iff.rfl
theorem lenOK_none {l : List AV} : (lenOK none l = true) = (0 < l.length) := by simp [lenOK]
theorem lenOK_some {n : Nat} {l : List AV} : (lenOK (some n) l = true) = (l.length = n) := by simp [lenOK]
theorem sg_copy {size : Nat} {d s : Arg} : SG P (.copy size d s) e h (c := ⟨KS⟩) = CpA h size (d.ev e) (s.ev e) (c := ⟨KS⟩) := propext Iff.rfl
theorem cpA_msl {size b off n : Nat} {cap : Option Nat} {s : AV} : CpA h size (.msl b off n cap) s (c := ⟨KS⟩) = BlkG (h.blk b) (c := ⟨fun cs => off + n * size ≤ cs.length ∧ RG size h s (c := ⟨fun m ys => allOne ys = true ∧
      KS (.int .i64 (Nat.min m n : Nat)) (h.put b (spl cs off (ys.take (Nat.min m n * size))))⟩)⟩) := propext Iff.rfl
theorem sg_call {f : FuncId} {args : List Arg} : SG P (.call f args) e h (c := ⟨KS⟩) = CallS P f (args.map (Arg.ev e)) h (c := ⟨KS⟩) := propext Iff.rfl
theorem sg_callv {g : Arg} {args : List Arg} : SG P (.callv g args) e h (c := ⟨KS⟩) = CsA P (g.ev e) (args.map (Arg.ev e)) h (c := ⟨KS⟩) := propext Iff.rfl
theorem csA_fn {f : FuncId} {caps args : List AV} : CsA P (.fn f caps) args h (c := ⟨KS⟩) = CallS P f (args ++ caps) h (c := ⟨KS⟩) := propext Iff.rfl
end
theorem AllocG.mk {h : AH} {z : List AV} {K : AV → AH → Prop} (hk : ∀ b, h.blk b = none → K (.ptr b 0) (h.put b z)) : AllocG h z (c := ⟨K⟩) := hk
theorem MakeG.mk {h : AH} {l m bytes : Int} {z : List AV} {K : AV → AH → Prop} (h0 : 0 ≤ l) (h1 : l ≤ m) (h2 : m ≤ 140737488355328) (h3 : m * bytes ≤ 140737488355328)
    (hk : ∀ b, h.blk b = none → K (.msl b 0 l.toNat (some m.toNat)) (h.put b (List.replicate m.toNat z).flatten)) : MakeG h l m bytes z (c := ⟨K⟩) := ⟨h0, h1, h2, h3, hk⟩
theorem TokG.mk {h : AH} {nl : Bool} {n size : Nat} {cs : List AV} {K : AV → AH → Prop} (hk : ∀ t, h.tok t = none → K (.sl nl n cs (.tok t)) (h.setTok t n size)) : TokG h nl n size cs (c := ⟨K⟩) := hk
theorem GrowG.mk {h : AH} {n size : Nat} {cells : List AV} {K : AV → AH → Prop} (hk : ∀ b q, n ≤ q → h.blk b = none → K (.msl b 0 n (some q)) (h.put b (cells ++ List.replicate ((q - n) * size) .undef))) : GrowG h n size cells (c := ⟨K⟩) := hk
theorem MslG.mk {h : AH} {n : Nat} {cells : List AV} {K : AV → AH → Prop} (hk : ∀ b, h.blk b = none → K (.msl b 0 n none) (h.put b cells)) : MslG h n cells (c := ⟨K⟩) := hk
theorem NewMG.mk {h : AH} {K : AV → AH → Prop} (hk : ∀ b, h.mp b = none → K (.map b) (h.putM b [])) : NewMG h (c := ⟨K⟩) := hk
theorem FindG.mk {o : Option (Option AV)} {r : Option AV} {K : Option AV → Prop} (ho : o = some r) (hk : K r) : FindG o (c := ⟨K⟩) := ⟨r, ho, hk⟩
theorem MapG.mk {o : Option (List (AV × AV))} {r : List (AV × AV)} {K : List (AV × AV) → Prop} (ho : o = some r) (hk : K r) : MapG o (c := ⟨K⟩) := ⟨r, ho, hk⟩
theorem cells_map {b : Nat} : AV.cells (.map b) = [.map b] := rfl
theorem one_map {b : Nat} : AV.one (.map b) = true := rfl
theorem cells_nilmap : AV.cells .nilmap = [.nilmap] := rfl
theorem one_nilmap : AV.one .nilmap = true := rfl
theorem evRes_nil {e : Env} {h : AH} {K : List AV → Prop} : evRes e h [] K = K [] := propext Iff.rfl
theorem evRes_t {e : Env} {h : AH} {K : List AV → Prop} {n : Nat} {r : List CRes} : evRes e h (.t n :: r) K = evRes e h r (fun vs => K (e.get n :: vs)) := propext Iff.rfl
theorem evRes_cell {e : Env} {h : AH} {K : List AV → Prop} {n : Nat} {sz : Option Nat} {r : List CRes} : evRes e h (.cell n sz :: r) K = LdA h sz (e.get n) (c := ⟨fun v => evRes e h r fun vs => K (v :: vs)⟩) := by
  simp only [evRes, LdA]; generalize e.get n = v; cases v <;> exact propext Iff.rfl
theorem cells_st {cs : List AV} : AV.cells (.st cs) = cs := rfl
theorem cells_int {k : IntKind} {n : Int} : AV.cells (.int k n) = [.int k n] := rfl
theorem one_int {k : IntKind} {n : Int} : AV.one (.int k n) = true := rfl
theorem cells_bool {b : Bool} : AV.cells (.bool b) = [.bool b] := rfl
theorem one_bool {b : Bool} : AV.one (.bool b) = true := rfl
theorem cells_str {b : ByteArray} : AV.cells (.str b) = [.str b] := rfl
theorem one_str {b : ByteArray} : AV.one (.str b) = true := rfl
theorem cells_sl {nl : Bool} {n : Nat} {cs : List AV} {tl : Tail} : AV.cells (.sl nl n cs tl) = [.sl nl n cs tl] := rfl
theorem one_sl {nl : Bool} {n : Nat} {cs : List AV} {tl : Tail} : AV.one (.sl nl n cs tl) = true := rfl
theorem cells_ptr {b o : Nat} : AV.cells (.ptr b o) = [.ptr b o] := rfl
theorem one_ptr {b o : Nat} : AV.one (.ptr b o) = true := rfl
theorem cells_sptr {cs : List AV} : AV.cells (.sptr cs) = [.sptr cs] := rfl
theorem one_sptr {cs : List AV} : AV.one (.sptr cs) = true := rfl
theorem cells_nilp  : AV.cells (.nilp) = [.nilp] := rfl
theorem one_nilp  : AV.one (.nilp) = true := rfl
theorem cells_msl {b o n : Nat} {c : Option Nat} : AV.cells (.msl b o n c) = [.msl b o n c] := rfl
theorem one_msl {b o n : Nat} {c : Option Nat} : AV.one (.msl b o n c) = true := rfl
theorem cells_fn {f : FuncId} {cs : List AV} : AV.cells (.fn f cs) = [.fn f cs] := rfl
theorem one_fn {f : FuncId} {cs : List AV} : AV.one (.fn f cs) = true := rfl
theorem cells_nilfn  : AV.cells (.nilfn) = [.nilfn] := rfl
theorem one_nilfn  : AV.one (.nilfn) = true := rfl
theorem AWP.of_vg {P : Program} {g : Cfg} (hm : P.follows .mixedOrders = true) {c : C} {Q : Exit → Env → AH → Prop} {e : Env} {h : AH} (hv : VG P g c e h (q := ⟨Q⟩)) : AWP P g c Q e h := .of_vc hm hv
/-- A list that has grown from nil. -/
def gl (cs : List AV) (n : Nat) (tl : Tail) : AV := .sl (decide (n = 0)) n cs tl
section
variable {P : Program} {g : Cfg} {e : Env} {h : AH} {K : AV → Prop} {KS : AV → AH → Prop} {KB : Bool → Prop} {KR : Nat → List AV → Prop} {cs : List AV} {n : Nat} {tl : Tail}
theorem lnA_gl : LnA (gl cs n tl) (c := ⟨K⟩) = K (.int .i64 n) := propext Iff.rfl
theorem ixA_gl {size : Nat} {k : IntKind} {j : Int} : IxA size (gl cs n tl) (.int k j) (c := ⟨K⟩) = (0 ≤ j ∧ j < n ∧ K (.sptr (cs.drop (j.toNat * size)))) := propext Iff.rfl
theorem rg_gl {size : Nat} : RG size h (gl cs n tl) (c := ⟨KR⟩) = (cs.length = n * size ∧ KR n cs) := propext Iff.rfl
theorem qg_gl {nf : Nat} {tl' : Tail} : QG .slice nf (gl cs n tl) (.sl true 0 [] tl') (c := ⟨KB⟩) = KB (decide (n = 0)) := propext Iff.rfl
theorem cells_gl : AV.cells (gl cs n tl) = [gl cs n tl] := rfl
theorem one_gl : AV.one (gl cs n tl) = true := rfl
theorem gl_nil_flag (n m : Nat) : (decide (n = 0) && decide (n + m = 0)) = decide (n + m = 0) := by
  by_cases h : n + m = 0
  · have : n = 0 := by omega
    simp [this]
  · simp
theorem apS_gl {size bytes t : Nat} {y : AV} : ApS h size bytes (gl cs n (.tok t)) y (c := ⟨KS⟩) = (cs.length = n * size ∧ h.tok t = some (n, size) ∧ RG size h y (c := ⟨fun m ys => (n + m) * bytes ≤ 140737488355328 ∧ n + m ≤ 140737488355328 ∧
      KS (gl (cs ++ ys) (n + m) (.tok t)) (h.setTok t (n + m) size)⟩)) := by
  simp only [gl, ApS, gl_nil_flag]; exact propext Iff.rfl
theorem ret_gl {h0 : AH} (hh : h0.le h) : ∃ r' h', RGh (gl cs n tl) h r' h' ∧ r' = gl cs n .unk ∧ h' = h0 := ⟨_, h0, .forget AV.le.unk hh, rfl, rfl⟩
end
end Go.Abs
