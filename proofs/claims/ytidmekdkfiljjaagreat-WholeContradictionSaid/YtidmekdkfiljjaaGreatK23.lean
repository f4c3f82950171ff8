/- The arguments of a call, read as abstract values. No condition. -/
import Derived.Test.YtidmekdkfiljjaaGreatK22
import Derived.WalkKit
import Derived.ProofKit
import Derived.OpenShut
import Derived.ShutString
import Derived.ChangeOld
import Derived.ChangeArms
import Derived.Deep.Slices
import Derived.Below
namespace Go.Abs
open Go Go.ChangeShapes Go.WideShapes Go.ChangeAt Go.RowKit Go.Deep
set_option linter.unusedVariables false

/-- All that stands in the world, fixed. -/
def oldSg (w : World) : Sg where
  fx := fun b o => match w.cell? ⟨b, o, none⟩ with
    | some v => if v.oneCell' = true then some v else none
    | none => none
  blk := fun _ => none
  tok := fun _ => none
  nb := 0
  nt := 0
  mb := fun _ => none
  nm := 0
theorem oldSg_fx {w : World} {b o : Nat} {v : Value} : (oldSg w).fx b o = some v ↔ w.cell? ⟨b, o, none⟩ = some v ∧ v.oneCell' = true := by
  unfold oldSg
  simp only
  constructor
  · intro h
    split at h
    · rename_i u hu
      split at h
      · cases h; exact ⟨hu, by assumption⟩
      · cases h
    · cases h
  · rintro ⟨h1, h2⟩
    rw [h1]; simp [h2]
theorem oldSim (w : World) : HSim (oldSg w) AH.emp w (ownOf (oldSg w) AH.emp) w where
  fx := fun b o v h => oldSg_fx.1 h
  blk := fun b cells h => by cases h
  inj := fun b b' c h => absurd rfl h
  tok := fun t n h => by cases h
  tokinj := fun t t' n n' i i' h => by cases h
  tokblk := fun t n i b h => by cases h
  nb := fun _ _ => rfl
  nt := fun _ _ => rfl
  mp := fun b es h => by cases h
  minj := fun b b' c h => absurd rfl h
  nm := fun _ _ => rfl
  frame := fun _ _ _ => rfl
  size := Nat.le_refl _
  os := rfl
  tape := rfl
  output := rfl
theorem ownOf_emp (s : Sg) (k : Nat) : ¬ ownOf s AH.emp k := by
  rintro (⟨b, h, _⟩ | ⟨t, n, i, h, _⟩ | ⟨b, h, _⟩)
  · exact h rfl
  · cases h
  · exact h rfl

/-- What a call says of the world. -/
theorem ACalls.below {P : Program} {f : FuncId} {args : List AV} {x : AV} (hc : ACalls P f args AH.emp fun r _ => r = x) {w : World} {vs : List Value} (hv : VRels (oldSg w) args vs) :
    Calls P f vs.toArray w fun e w' => (∃ s v, e = .returned v ∧ VRel s x v) ∧ Below w.heap.size w w' := by
  refine (hc.2 (oldSg w) vs w hv (oldSim w)).mono fun e w' ⟨s', r, v, h', h1, h2, h3, h4, h5⟩ => ?_
  subst h5
  exact ⟨⟨s', v, h3, h4⟩, ⟨h2.os, h2.tape, h2.output, h2.size, fun k hk => h2.frame k hk (ownOf_emp _ k)⟩⟩

/-- The shape of a type. -/
inductive Ty where
  | int (k : IntKind)
  | bool
  | str
  | sl (t : Ty)
  | st (fs : List Ty)

def contig (P : Program) (tot : Nat) : List Field → Nat → Bool
  | [], off => off == tot
  | f :: r, off => f.offset == off && contig P tot r (off + P.cellsOf f.type)
def tyOf (P : Program) : Nat → TypeId → Option Ty
  | 0, _ => none
  | d + 1, t => match P.underlying t with
    | some .bool => some .bool
    | some (.int k) => some (.int k)
    | some .string => some .str
    | some (.slice e) => if P.cellsOf e = 0 then none else (tyOf P d e).map .sl
    | some (.struct fs) => if contig P (P.cellsOf t) fs.toList 0 then (fs.toList.mapM fun f => tyOf P d f.type).map .st else none
    | some (.array n e) => if P.cellsOf t = n * P.cellsOf e then (tyOf P d e).map fun T => .st (List.replicate n T) else none
    | _ => none

/-- Cells of that shape. -/
inductive Has : Ty → List AV → Prop where
  | int (k : IntKind) (n : Int) (h : InR k n) : Has (.int k) [.int k n]
  | bool (b : Bool) : Has .bool [.bool b]
  | str (s : ByteArray) : Has .str [.str s]
  | sl (t : Ty) (nl : Bool) (rows : List (List AV)) (h : ∀ r, r ∈ rows → Has t r) : Has (.sl t) [.sl nl rows.length rows.flatten .unk]
  | nil : Has (.st []) []
  | cons (t : Ty) (ts : List Ty) (r cs : List AV) (h : Has t r) (k : Has (.st ts) cs) : Has (.st (t :: ts)) (r ++ cs)

theorem allOne_append (xs ys : List AV) : allOne (xs ++ ys) = (allOne xs && allOne ys) := by
  induction xs with
  | nil => rfl
  | cons x xs ih => simp only [List.cons_append, allOne, ih, Bool.and_assoc]
theorem Has.allOne {T : Ty} {xs : List AV} (h : Has T xs) : Abs.allOne xs = true := by
  induction h with
  | int => rfl
  | bool => rfl
  | str => rfl
  | sl => rfl
  | nil => rfl
  | cons t ts r cs h k ih1 ih2 => rw [allOne_append, ih1, ih2]; rfl

theorem list_split {α : Type} (l : List α) (a n : Nat) : l.drop a = (l.drop a).take n ++ l.drop (a + n) := by
  rw [← List.drop_drop, List.take_append_drop]

theorem mapM_cons_some {α β : Type} {f : α → Option β} {a : α} {l : List α} {ys : List β} (h : (a :: l).mapM f = some ys) : ∃ y zs, f a = some y ∧ l.mapM f = some zs ∧ ys = y :: zs := by
  rw [List.mapM_cons] at h
  obtain ⟨y, h1, h⟩ := bind_some h
  obtain ⟨zs, h2, h⟩ := bind_some h
  cases h
  exact ⟨y, zs, h1, h2, rfl⟩

section
variable {H : Type} {enc : TypeId × Value → H} {P : Program} {w : World} {base : Nat} {held : Bool}

theorem rows_rel {s : Sg} : ∀ (n : Nat) (X : Nat → List AV) (V : Nat → List Value), (∀ i, i < n → VRels s (X i) (V i)) → VRels s ((List.range n).map X).flatten ((List.range n).map V).flatten := by
  intro n
  induction n with
  | zero => intro X V _; exact .nil s
  | succ n ih =>
    intro X V h
    rw [List.range_succ, List.map_append, List.map_append, List.flatten_append, List.flatten_append]
    refine (ih X V (fun i hi => h i (by omega))).append ?_
    simpa using h n (by omega)
theorem flat_get {V : Nat → List Value} {sz : Nat} (hpos : 0 < sz) : ∀ (n : Nat), (∀ i, i < n → (V i).length = sz) → ∀ j, j < n * sz → (((List.range n).map V).flatten)[j]? = (V (j / sz))[j % sz]? := by
  intro n
  induction n with
  | zero => intro _ j hj; simp at hj
  | succ n ih =>
    intro h j hj
    have hl : (((List.range n).map V).flatten).length = n * sz := by
      clear hj ih
      induction n with
      | zero => simp
      | succ n ih2 =>
        rw [List.range_succ, List.map_append, List.flatten_append, List.length_append, ih2 (fun i hi => h i (by omega))]
        simp [h n (by omega), Nat.add_mul]
    rw [List.range_succ, List.map_append, List.flatten_append, List.getElem?_append, hl]
    split
    · rename_i hlt
      exact ih (fun i hi => h i (by omega)) j hlt
    · rename_i hge
      have e1 : j / sz = n := by
        apply Nat.div_eq_of_lt_le
        · omega
        · exact hj
      have e2 : j % sz = j - n * sz := by
        have := Nat.div_add_mod j sz
        rw [e1, Nat.mul_comm] at this
        omega
      rw [e1, e2]; simp

theorem trod_has : ∀ (d : Nat) (fuel : Nat) (t : TypeId) (T : Ty) (cs : List Value) (x : DataW H × List MemPlace), tyOf P d t = some T → DataW.trod enc P w base (fun _ => true) held fuel t cs = some x →
    ∃ xs, Has T xs ∧ VRels (oldSg w) xs cs := by
  intro d
  induction d with
  | zero => intro fuel t T cs x h; cases h
  | succ d ih =>
    intro fuel t T cs x h hx
    unfold tyOf at h
    split at h
    · rename_i hu
      cases h
      obtain ⟨b, rfl, _⟩ := DataW.trod_bool hu hx
      exact ⟨_, .bool b, .cons (.bool b) (.nil _)⟩
    · rename_i k hu
      cases h
      obtain ⟨n, rfl, _, hwf⟩ := DataW.trod_int hu hx
      have hr : InR k n := by simpa [Lit.wf, InR] using hwf
      exact ⟨_, .int k n hr, .cons (.int k n hr) (.nil _)⟩
    · rename_i hu
      cases h
      obtain ⟨s, rfl, _⟩ := DataW.trod_string hu hx
      exact ⟨_, .str s, .cons (.str s) (.nil _)⟩
    · rename_i e hu
      split at h
      · cases h
      · rename_i hz
        obtain ⟨T', hT, rfl⟩ := map_some h
        rcases open_slice hu hx with ⟨rfl, _⟩ | ⟨a, len, cap, m, n, D, Pl, rfl, hb, hl, hm, hmm, _, hel⟩
        · exact ⟨_, .sl T' true [] (by simp), .cons (.sl true 0 [] .unk none 0 [] rfl (by simp) (by simp) rfl (fun _ => ⟨rfl, rfl⟩) (by simp) (Nat.le_refl _) (by omega) trivial) (.nil _)⟩
        · simp only [if_true] at hmm
          subst hmm
          obtain ⟨V, hV⟩ := choose_lt (α := List Value) (p := fun i cs' => w.cells? base (a.add (i * P.cellsOf e)) (P.cellsOf e) = some cs' ∧ DataW.trod enc P w base (fun _ => true) held n e cs' = some (D i, Pl i)) hel
          obtain ⟨X, hX⟩ := choose_lt (α := List AV) (n := m) (p := fun i xs => Has T' xs ∧ VRels (oldSg w) xs (V i)) (fun i hi => ih n e T' (V i) _ hT (hV i hi).2)
          have hlen : ∀ i, i < m → (V i).length = P.cellsOf e := fun i hi => (World.cells?_some (hV i hi).1).2.1
          have hpos : 0 < P.cellsOf e := by omega
          have hspot : m ≠ 0 → a.spot = none := fun hne => by
            have h0 := (World.cells?_some (hV 0 (by omega)).1).2.2 0 hpos
            have hl0 := hlen 0 (by omega)
            rw [List.getElem?_eq_getElem (by omega)] at h0
            have := World.cell?_spot h0
            simpa [Addr.add] using this
          have hrel := rows_rel (s := oldSg w) len X V (fun i hi => (hX i (by omega)).2)
          have hxl : ((List.range len).map X).length = len := by simp
          refine ⟨_, .sl T' false ((List.range len).map X) (fun r hr => ?_), .cons ?_ (.nil _)⟩
          · simp only [List.mem_map, List.mem_range] at hr
            obtain ⟨i, hi, rfl⟩ := hr
            exact (hX i (by omega)).1
          · rw [hxl]
            refine .sl false len _ .unk (some a) m ((List.range len).map V).flatten hrel.1 hrel.2 (fun j v hv => ?_) rfl (by simp) (fun ad had hne => by cases had; exact hspot hne) hl (Nat.le_trans hm (by decide)) trivial
            have hfl : (((List.range len).map V).flatten).length = len * P.cellsOf e := by
              have : ∀ k, k ≤ len → (((List.range k).map V).flatten).length = k * P.cellsOf e := by
                intro k
                induction k with
                | zero => intro _; simp
                | succ k ih2 =>
                  intro hk
                  rw [List.range_succ, List.map_append, List.flatten_append, List.length_append, ih2 (by omega)]
                  simp [hlen k (by omega), Nat.add_mul]
              exact this len (Nat.le_refl _)
            have hj : j < len * P.cellsOf e := by have := (List.getElem?_eq_some_iff.1 hv).1; omega
            have hdv : j / P.cellsOf e < len := Nat.div_lt_of_lt_mul (by rw [Nat.mul_comm]; exact hj)
            have hmd : j % P.cellsOf e < P.cellsOf e := Nat.mod_lt _ hpos
            have hdm : j / P.cellsOf e < m := Nat.lt_of_lt_of_le hdv hl
            rw [flat_get hpos len (fun i hi => hlen i (by omega)) j hj] at hv
            have hsp := hspot (fun h0 => by rw [h0] at hdm; exact absurd hdm (Nat.not_lt_zero _))
            refine ⟨a, rfl, hsp, oldSg_fx.2 ⟨?_, ?_⟩⟩
            · have := (World.cells?_some (hV (j / P.cellsOf e) hdm).1).2.2 (j % P.cellsOf e) hmd
              rw [hv] at this
              rw [← this]
              have hj2 : j / P.cellsOf e * P.cellsOf e + j % P.cellsOf e = j := by rw [Nat.mul_comm]; exact Nat.div_add_mod j _
              have hadd : (a.add (j / P.cellsOf e * P.cellsOf e)).add (j % P.cellsOf e) = ⟨a.block, a.off + j, none⟩ := by
                rw [add_eq hsp, add_eq rfl]
                simp only [Nat.add_assoc, hj2]
              rw [hadd]
            · exact VRels.one_inv (hX (j / P.cellsOf e) hdm).2 (hX (j / P.cellsOf e) hdm).1.allOne v (List.mem_of_getElem? hv)
    · rename_i fs hu
      split at h
      · rename_i hcg
        obtain ⟨Ts, hTs, rfl⟩ := map_some h
        obtain ⟨ys, n, rfl, _, hcl, hyl, hf⟩ := DataW.trod_struct hu hx
        have main : ∀ (l : List Field) (Ts : List Ty) (off : Nat), contig P (P.cellsOf t) l off = true → l.mapM (fun f => tyOf P d f.type) = some Ts →
            (∀ f, f ∈ l → ∃ y, DataW.trod enc P w base (fun _ => true) held n f.type ((cs.drop f.offset).take (P.cellsOf f.type)) = some y) → ∃ xs, Has (.st Ts) xs ∧ VRels (oldSg w) xs (cs.drop off) := by
          intro l
          induction l with
          | nil =>
            intro Ts off hcg hTs _
            simp at hTs
            subst hTs
            simp only [contig, beq_iff_eq] at hcg
            have : cs.drop off = [] := List.drop_eq_nil_of_le (by omega)
            rw [this]
            exact ⟨[], .nil, .nil _⟩
          | cons f l ihl =>
            intro Ts off hcg hTs hfl
            obtain ⟨T1, Ts1, h1, h2, rfl⟩ := mapM_cons_some hTs
            simp only [contig, Bool.and_eq_true, beq_iff_eq] at hcg
            obtain ⟨y, hy⟩ := hfl f (by simp)
            obtain ⟨xs1, a1, a2⟩ := ih n f.type T1 _ y h1 hy
            obtain ⟨xs2, b1, b2⟩ := ihl Ts1 _ hcg.2 h2 (fun g hg => hfl g (by simp [hg]))
            rw [hcg.1] at a2
            refine ⟨xs1 ++ xs2, .cons _ _ _ _ a1 b1, ?_⟩
            rw [list_split cs off (P.cellsOf f.type)]
            exact a2.append b2
        have := main fs.toList Ts 0 hcg hTs (fun f hfm => by
          obtain ⟨i, hi, hie⟩ := List.getElem_of_mem hfm
          have hfi : fs[i]? = some f := by
            have hi' : i < fs.size := by simpa using hi
            rw [Array.getElem?_eq_getElem hi']; simpa using hie
          have := hf i f hfi
          have hyi : i < ys.length := by rw [hyl]; simpa using hi
          rw [List.getElem?_eq_getElem hyi] at this
          exact ⟨_, this⟩)
        simpa using this
      · cases h
    · rename_i n e hu
      split at h
      · rename_i hcn
        obtain ⟨T', hT, rfl⟩ := map_some h
        obtain ⟨ys, m, rfl, _, hcl, hyl, hf⟩ := DataW.trod_array hu hx
        have main : ∀ (k off : Nat), off + k = n → ∃ xs, Has (.st (List.replicate k T')) xs ∧ VRels (oldSg w) xs (cs.drop (off * P.cellsOf e)) := by
          intro k
          induction k with
          | zero =>
            intro off ho
            have : cs.drop (off * P.cellsOf e) = [] := List.drop_eq_nil_of_le (by rw [hcl, hcn, show off = n by omega]; exact Nat.le_refl _)
            rw [this]
            exact ⟨[], .nil, .nil _⟩
          | succ k ihk =>
            intro off ho
            have hy := hf off (by omega)
            rw [List.getElem?_eq_getElem (by omega)] at hy
            obtain ⟨xs1, a1, a2⟩ := ih m e T' _ _ hT hy
            obtain ⟨xs2, b1, b2⟩ := ihk (off + 1) (by omega)
            refine ⟨xs1 ++ xs2, .cons _ _ _ _ a1 b1, ?_⟩
            rw [list_split cs (off * P.cellsOf e) (P.cellsOf e)]
            rw [Nat.add_mul, Nat.one_mul] at b2
            exact a2.append b2
        have := main n 0 (by omega)
        simpa using this
      · cases h
    · cases h
end

/-! ### Shapes that occur -/
theorem has_int {k : IntKind} {xs : List AV} (h : Has (.int k) xs) : ∃ n, xs = [.int k n] ∧ InR k n := by cases h with | int k n h => exact ⟨n, rfl, h⟩
theorem has_pair {xs : List AV} (h : Has (.st [.int .i64, .int .i64]) xs) : ∃ p : Int × Int, xs = [.int .i64 p.1, .int .i64 p.2] := by
  cases h with
  | cons t ts r cs h1 h2 =>
    obtain ⟨a, rfl, _⟩ := has_int h1
    cases h2 with
    | cons t ts r cs h3 h4 =>
      obtain ⟨b, rfl, _⟩ := has_int h3
      cases h4
      exact ⟨(a, b), rfl⟩
theorem has_prs {xs : List AV} (h : Has (.sl (.st [.int .i64, .int .i64])) xs) : ∃ nl e, xs = [.sl nl e.length (prs e) .unk] := by
  cases h with
  | sl t nl rows hr =>
    obtain ⟨e, he⟩ : ∃ e : List (Int × Int), rows = e.map fun p => [AV.int .i64 p.1, AV.int .i64 p.2] := by
      induction rows with
      | nil => exact ⟨[], rfl⟩
      | cons r rows ih =>
        obtain ⟨e, he⟩ := ih (fun r' hr' => hr r' (by simp [hr']))
        obtain ⟨p, hp⟩ := has_pair (hr r (by simp))
        exact ⟨p :: e, by rw [he, hp]; rfl⟩
    subst he
    refine ⟨nl, e, ?_⟩
    have : (e.map fun p => [AV.int .i64 p.1, AV.int .i64 p.2]).flatten = prs e := by
      clear hr
      induction e with
      | nil => rfl
      | cons n e ih => simp only [List.map_cons, List.flatten_cons, ih]; rfl
    rw [this, List.length_map]
/-- Rows of one shape. -/
theorem has_rows {T : Ty} {α : Type} (enc : α → List AV) (h1 : ∀ xs, Has T xs → ∃ a, xs = enc a) {xs : List AV} (h : Has (.sl T) xs) : ∃ nl, ∃ l : List α, xs = [.sl nl l.length (l.flatMap enc) .unk] := by
  cases h with
  | sl t nl rows hr =>
    obtain ⟨l, hl⟩ : ∃ l : List α, rows = l.map enc := by
      induction rows with
      | nil => exact ⟨[], rfl⟩
      | cons r rows ih =>
        obtain ⟨l, hl⟩ := ih (fun r' hr' => hr r' (by simp [hr']))
        obtain ⟨a, ha⟩ := h1 r (hr r (by simp))
        exact ⟨a :: l, by rw [hl, ha]; rfl⟩
    subst hl
    exact ⟨nl, l, by rw [List.length_map, List.flatMap]⟩
theorem has_cons {T : Ty} {Ts : List Ty} {xs : List AV} (h : Has (.st (T :: Ts)) xs) : ∃ r cs, xs = r ++ cs ∧ Has T r ∧ Has (.st Ts) cs := by
  cases h with
  | cons t ts r cs h1 h2 => exact ⟨r, cs, rfl, h1, h2⟩
theorem has_nil {xs : List AV} (h : Has (.st []) xs) : xs = [] := by cases h; rfl
theorem VRels.agg {s : Sg} {xs : List AV} {cs : Array Value} (h : VRels s xs cs.toList) : VRel s (.st xs) (.agg cs) := by
  have := VRel.st xs cs.toList h.1 h.2
  simpa using this
end Go.Abs
