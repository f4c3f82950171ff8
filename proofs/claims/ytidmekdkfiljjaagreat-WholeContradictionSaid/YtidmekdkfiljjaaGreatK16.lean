/- What an operation reads, and that one that turns nothing has one answer, also when more has been made. No condition. -/
import Derived.Test.YtidmekdkfiljjaaGreatK15
namespace Go.Abs
open Go

def Arg.slots : Arg → List Nat
  | .t n => [n]
  | .c _ => []
def oslots : Option Arg → List Nat
  | some x => x.slots
  | none => []
def AOp.slots : AOp → List Nat
  | .mv x | .un _ x | .conv _ x | .load _ x | .fieldAddr _ x | .field _ _ x | .len x | .extract x _ | .nilCheck x | .box x | .boxF _ x | .clear _ _ x | .mlen x | .loadF _ x => x.slots
  | .pick c a b | .mapUpdate _ c a b => c.slots ++ (a.slots ++ b.slots)
  | .bin _ x y | .eqv _ _ _ x y | .indexAddr _ x y | .indexArr _ _ x y | .max x y | .min x y | .makeSlice _ _ _ x y | .append _ _ x y | .appendM _ _ x y | .appendI _ _ x y | .strIndex x y | .lookup _ _ _ x y | .store _ x y | .storeF _ x y | .copy _ x y => x.slots ++ y.slots
  | .slice _ x lo hi mx => x.slots ++ (oslots lo ++ (oslots hi ++ oslots mx))
  | .build _ ps | .buildSlice _ _ _ ps => ps.flatMap fun p => p.2.2.slots
  | .makeFunc _ as | .call _ as => as.flatMap Arg.slots
  | .callv g as => g.slots ++ as.flatMap Arg.slots
  | .alloc _ | .makeMap | .bad => []

def Agree (l : List Nat) (e e' : Env) : Prop := ∀ t ∈ l, e'.get t = e.get t

theorem Arg.ev_agree {x : Arg} {e e' : Env} (h : Agree x.slots e e') : x.ev e' = x.ev e := by
  cases x with
  | t n => exact h n (by simp [Arg.slots])
  | c v => rfl
theorem Agree.left {l m : List Nat} {e e' : Env} (h : Agree (l ++ m) e e') : Agree l e e' := fun t ht => h t (List.mem_append_left _ ht)
theorem Agree.right {l m : List Nat} {e e' : Env} (h : Agree (l ++ m) e e') : Agree m e e' := fun t ht => h t (List.mem_append_right _ ht)
theorem evs_agree {as : List Arg} {e e' : Env} (h : Agree (as.flatMap Arg.slots) e e') : as.map (Arg.ev e') = as.map (Arg.ev e) := by
  induction as with
  | nil => rfl
  | cons a as ih =>
    rw [List.flatMap_cons] at h
    simp only [List.map_cons]
    rw [Arg.ev_agree h.left, ih h.right]
theorem parts_agree {ps : List (Nat × Nat × Arg)} {e e' : Env} (h : Agree (ps.flatMap fun p => p.2.2.slots) e e') : partsOK e' ps = partsOK e ps ∧ ∀ cs, fillAV e' ps cs = fillAV e ps cs := by
  induction ps with
  | nil => exact ⟨rfl, fun _ => rfl⟩
  | cons p ps ih =>
    rw [List.flatMap_cons] at h
    obtain ⟨off, size, x⟩ := p
    obtain ⟨i1, i2⟩ := ih h.right
    have hx : x.ev e' = x.ev e := Arg.ev_agree h.left
    exact ⟨by simp only [partsOK, hx, i1], fun cs => by simp only [fillAV, hx, i2]⟩
theorem evBound_agree {x : Option Arg} {e e' : Env} (h : Agree (oslots x) e e') (d : Nat) (K : Nat → Prop) : evBound e' d K x = evBound e d K x := by
  cases x with
  | none => rfl
  | some x => simp only [evBound, Arg.ev_agree (x := x) h]

/-! ### One answer -/
def Det (F : (AV → Prop) → Prop) : Prop := ∀ K, F K → ∃ v, K v ∧ ∀ K' : AV → Prop, K' v → F K'

theorem det_pure (v : AV) : Det (fun K => K v) := fun _ h => ⟨v, h, fun _ h' => h'⟩
theorem det_and {p : Prop} {F : (AV → Prop) → Prop} (h : Det F) : Det (fun K => p ∧ F K) := fun K ⟨hp, hk⟩ => let ⟨v, h1, h2⟩ := h K hk; ⟨v, h1, fun K' h' => ⟨hp, h2 K' h'⟩⟩
theorem det_ex {α : Type} {F : α → (AV → Prop) → Prop} (h : ∀ a, Det (F a)) : Det (fun K => ∃ a, F a K) := fun K ⟨a, hk⟩ => let ⟨v, h1, h2⟩ := h a K hk; ⟨v, h1, fun K' h' => ⟨a, h2 K' h'⟩⟩
theorem det_false : Det (fun _ => False) := fun _ h => h.elim

theorem evInt_det (op : BinOp) (k k' : IntKind) (a b : Int) : Det (evInt op k k' a b) := by
  intro K h
  cases op <;> simp only [evInt] at h ⊢ <;> first
    | exact ⟨_, h.2, fun _ h' => ⟨h.1, h'⟩⟩
    | exact ⟨_, h.2.2, fun _ h' => ⟨h.1, h.2.1, h'⟩⟩
    | exact ⟨_, h.2.2.2, fun _ h' => ⟨h.1, h.2.1, h.2.2.1, h'⟩⟩
theorem evBin_det (op : BinOp) (x y : AV) : Det (evBin op x y) := by
  unfold evBin
  cases x <;> cases y <;> first
    | exact det_false
    | exact evInt_det _ _ _ _ _
    | (cases op <;> first | exact det_pure _ | exact det_false)
theorem evEq_det (k : EqK) (nf : Nat) (x y : AV) (f : Bool → AV) : Det (fun K => evEq k nf x y fun b => K (f b)) := by
  intro K h
  unfold evEq at h ⊢
  cases k <;> simp only at h ⊢
  · split at h
    · exact ⟨_, h, fun K' h' => h'⟩
    · exact h.elim
  · split at h
    · exact ⟨_, h, fun K' h' => h'⟩
    · exact ⟨_, h, fun K' h' => h'⟩
    · exact h.elim
  · split at h
    · exact ⟨_, h, fun K' h' => h'⟩
    · exact ⟨_, h, fun K' h' => h'⟩
    · exact h.elim
  · split at h
    · exact ⟨_, h, fun K' h' => h'⟩
    · exact ⟨_, h, fun K' h' => h'⟩
    · exact ⟨_, h, fun K' h' => h'⟩
    · exact h.elim
  · split at h
    · obtain ⟨b, h1, h2, h3⟩ := h
      exact ⟨_, h3, fun K' h' => ⟨b, h1, h2, h'⟩⟩
    · exact h.elim
theorem evUn_det (op : UnOp) (x : AV) : Det (evUn op x) := by
  unfold evUn
  cases op <;> cases x <;> first | exact det_false | exact det_pure _ | exact det_and (det_pure _)
theorem evLoad_det (sz : Option Nat) (cs : List AV) : Det (evLoad sz cs) := by
  unfold evLoad
  cases sz with
  | none => exact det_ex fun x => det_and (det_pure _)
  | some n => exact det_and (det_pure _)
theorem evBound_det (e : Env) (d : Nat) (x : Option Arg) (F : Nat → (AV → Prop) → Prop) (h : ∀ n, Det (F n)) : Det (fun K => evBound e d (fun n => F n K) x) := by
  cases x with
  | none => exact h d
  | some x =>
    simp only [evBound]
    cases x.ev e <;> first | exact det_false | exact det_and (h _)
theorem rdSl_det (size : Nat) (h : AH) (y : AV) (F : Nat → List AV → (AV → Prop) → Prop) (hF : ∀ m ys, Det (F m ys)) : Det (fun K => rdSl size h y (fun m ys => F m ys K)) := by
  unfold rdSl
  cases y <;> first | exact det_false | exact det_and (hF _ _) | exact det_ex fun cs => det_and (det_and (hF _ _))

theorem evF_det (P : Program) (op : AOp) (e : Env) (h : AH) : Det (evF P op e h) := by
  unfold evF
  cases op <;> simp only
  case mv x => exact det_pure _
  case pick c a b =>
    cases c.ev e <;> first
      | exact det_false
      | (rename_i t; cases t
         · exact fun K hk => ⟨_, hk.2 rfl, fun K' h' => ⟨fun hc => (by cases hc), fun _ => h'⟩⟩
         · exact fun K hk => ⟨_, hk.1 rfl, fun K' h' => ⟨fun _ => h', fun hc => (by cases hc)⟩⟩)
  case bin o x y => exact evBin_det _ _ _
  case eqv k neg nf x y => exact evEq_det _ _ _ _ _
  case un o x => exact evUn_det _ _
  case conv k x => cases x.ev e <;> first | exact det_false | exact det_pure _
  case load sz x => cases x.ev e <;> first | exact det_false | exact evLoad_det _ _ | exact det_ex fun cs => det_and (evLoad_det _ _)
  case loadF sz x => cases x.ev e <;> first | exact det_false | exact evLoad_det _ _
  case fieldAddr off x => cases x.ev e <;> first | exact det_false | exact det_pure _
  case field off sz x => cases x.ev e <;> first | exact det_false | exact evLoad_det _ _
  case indexAddr size x i => cases x.ev e <;> cases i.ev e <;> first | exact det_false | exact det_and (det_and (det_pure _))
  case indexArr n size x i => cases x.ev e <;> cases i.ev e <;> first | exact det_false | exact det_and (det_and (det_pure _))
  case len x => cases x.ev e <;> first | exact det_false | exact det_pure _
  case max x y => cases x.ev e <;> cases y.ev e <;> first | exact det_false | exact det_and (det_pure _)
  case min x y => cases x.ev e <;> cases y.ev e <;> first | exact det_false | exact det_and (det_pure _)
  case slice size x lo hi mx =>
    cases x.ev e
    case sl nl n cs tl => exact evBound_det e n mx _ fun m => det_and (evBound_det e n hi _ fun h' => det_and (evBound_det e 0 lo _ fun l => det_and (det_pure _)))
    case msl b off n cap =>
      cases mx with
      | none => exact evBound_det e n hi _ fun h' => det_and (evBound_det e 0 lo _ fun l => det_and (det_pure _))
      | some mx => exact evBound_det e n (some mx) _ fun m => det_and (evBound_det e n hi _ fun h' => det_and (evBound_det e 0 lo _ fun l => det_and (det_pure _)))
    all_goals exact det_false
  case build z ps => exact det_and (det_pure _)
  case buildSlice n size z ps => exact det_and (det_pure _)
  case append size bytes x y =>
    cases x.ev e
    case sl nl n cs tl =>
      cases tl
      case full => exact det_and (rdSl_det size h _ _ fun m ys => det_and (det_and (det_pure _)))
      all_goals exact det_false
    all_goals exact det_false
  case makeFunc f as => exact det_pure _
  case extract x i => cases x.ev e <;> first | exact det_false | exact det_ex fun v => det_and (det_pure _)
  case nilCheck x => cases x.ev e <;> first | exact det_false | exact det_pure _
  case strIndex x i => cases x.ev e <;> cases i.ev e <;> first | exact det_false | exact det_and (det_ex fun u => det_and (det_pure _))
  case lookup kd z ok m i =>
    cases m.ev e <;> first
      | exact det_false
      | exact det_ex fun es => det_ex fun r => det_and (det_and (det_pure _))
  case mlen x =>
    cases x.ev e <;> first
      | exact det_false
      | exact det_ex fun es => det_and (det_and (det_pure _))
  case boxF n x => exact det_and (det_and (det_pure _))
  case call f as => exact det_ex fun v => det_and (det_pure _)
  case callv g as => cases g.ev e <;> first | exact det_false | exact det_ex fun v => det_and (det_pure _)
  all_goals exact det_false

/-! ### The same answer where the slots that are read agree, and more has been made -/
theorem rdSl_leB {size : Nat} {h h' : AH} (hl : AH.leB h h') {y : AV} {K : Nat → List AV → Prop} (hk : rdSl size h y K) : rdSl size h' y K := by
  unfold rdSl at *
  cases y <;> simp only at hk ⊢ <;> first | exact hk | (obtain ⟨cs, h1, h2⟩ := hk; exact ⟨cs, hl.1 _ _ h1, h2⟩)

theorem RCall.leB {P : Program} {f : FuncId} {args : List AV} {h h' : AH} {v : AV} (hc : RCall P f args h v) (hl : AH.leB h h') : RCall P f args h' v := fun h'' h2 => hc h'' (hl.trans h2)

theorem evF_agree {P : Program} {op : AOp} {e e' : Env} {h h' : AH} (ha : Agree op.slots e e') (hl : AH.leB h h') {K : AV → Prop} (hk : evF P op e h K) : evF P op e' h' K := by
  unfold evF at *
  cases op <;> simp only [AOp.slots] at ha hk ⊢
  case mv x => rw [Arg.ev_agree ha]; exact hk
  case pick c a b => rw [Arg.ev_agree ha.left, Arg.ev_agree ha.right.left, Arg.ev_agree ha.right.right]; exact hk
  case bin o x y => rw [Arg.ev_agree ha.left, Arg.ev_agree ha.right]; exact hk
  case eqv k neg nf x y => rw [Arg.ev_agree ha.left, Arg.ev_agree ha.right]; exact hk
  case un o x => rw [Arg.ev_agree ha]; exact hk
  case conv k x => rw [Arg.ev_agree ha]; exact hk
  case load sz x =>
    rw [Arg.ev_agree ha]
    generalize x.ev e = y at hk
    cases y <;> simp only at hk ⊢ <;> first | exact hk | (obtain ⟨cs, h1, h2⟩ := hk; exact ⟨cs, hl.1 _ _ h1, h2⟩)
  case fieldAddr off x => rw [Arg.ev_agree ha]; exact hk
  case field off sz x => rw [Arg.ev_agree ha]; exact hk
  case indexAddr size x i => rw [Arg.ev_agree ha.left, Arg.ev_agree ha.right]; exact hk
  case indexArr n size x i => rw [Arg.ev_agree ha.left, Arg.ev_agree ha.right]; exact hk
  case len x => rw [Arg.ev_agree ha]; exact hk
  case max x y => rw [Arg.ev_agree ha.left, Arg.ev_agree ha.right]; exact hk
  case min x y => rw [Arg.ev_agree ha.left, Arg.ev_agree ha.right]; exact hk
  case slice size x lo hi mx =>
    rw [Arg.ev_agree ha.left]
    generalize x.ev e = y at hk ⊢
    cases y
    case sl nl n cs tl =>
      simp only [evBound_agree ha.right.left, evBound_agree ha.right.right.left, evBound_agree ha.right.right.right] at hk ⊢
      exact hk
    case msl b off n cap =>
      cases mx with
      | none =>
        simp only [evBound_agree ha.right.left, evBound_agree ha.right.right.left] at hk ⊢
        exact hk
      | some mx =>
        simp only [evBound_agree ha.right.left, evBound_agree ha.right.right.left, evBound_agree (x := some mx) ha.right.right.right] at hk ⊢
        exact hk
    all_goals exact hk
  case build z ps => obtain ⟨p1, p2⟩ := parts_agree ha; rw [p1, p2]; exact hk
  case buildSlice n size z ps => obtain ⟨p1, p2⟩ := parts_agree ha; rw [p1, p2]; exact hk
  case append size bytes x y =>
    rw [Arg.ev_agree ha.left, Arg.ev_agree ha.right]
    generalize x.ev e = z at hk
    cases z <;> (try simp only at hk ⊢) <;> try exact hk
    rename_i nl n cs tl
    cases tl <;> simp only at hk ⊢ <;> try exact hk
    exact ⟨hk.1, rdSl_leB hl hk.2⟩
  case makeFunc f as => rw [evs_agree ha]; exact hk
  case extract x i => rw [Arg.ev_agree ha]; exact hk
  case nilCheck x => rw [Arg.ev_agree ha]; exact hk
  case strIndex x i => rw [Arg.ev_agree ha.left, Arg.ev_agree ha.right]; exact hk
  case lookup kd z ok m i =>
    rw [Arg.ev_agree ha.left, Arg.ev_agree ha.right]
    generalize m.ev e = y at hk
    cases y <;> simp only at hk ⊢ <;> first | exact hk | (obtain ⟨es, r, h1, h2, h3⟩ := hk; exact ⟨es, r, hl.2 _ _ h1, h2, h3⟩)
  case mlen x =>
    rw [Arg.ev_agree ha]
    generalize x.ev e = y at hk
    cases y <;> simp only at hk ⊢ <;> first | exact hk | (obtain ⟨es, h1, h2⟩ := hk; exact ⟨es, hl.2 _ _ h1, h2⟩)
  case boxF n x => rw [Arg.ev_agree ha]; exact hk
  case loadF n x => rw [Arg.ev_agree ha]; exact hk
  case call f as => rw [evs_agree ha]; obtain ⟨v, h1, h2⟩ := hk; exact ⟨v, h1.leB hl, h2⟩
  case callv g as =>
    rw [Arg.ev_agree ha.left, evs_agree ha.right]
    generalize g.ev e = y at hk
    cases y <;> simp only at hk ⊢ <;> first | exact hk | (obtain ⟨v, h1, h2⟩ := hk; exact ⟨v, h1.leB hl, h2⟩)
  all_goals exact hk

/-- What asks nothing of the heap. -/
def AOp.calm : AOp → Bool
  | .mv _ | .pick .. | .bin .. | .eqv .. | .un .. | .conv .. | .fieldAddr .. | .field .. | .indexAddr .. | .indexArr .. | .len _ | .max .. | .min .. | .slice .. | .build .. | .buildSlice .. | .makeFunc .. | .extract .. | .nilCheck _ | .strIndex .. | .boxF .. | .loadF .. => true
  | _ => false
theorem evF_calm {P : Program} {op : AOp} (hc : op.calm = true) {e : Env} {h h' : AH} {K : AV → Prop} (hk : evF P op e h K) : evF P op e h' K := by
  unfold evF at *
  cases op <;> first | exact hk | (simp [AOp.calm] at hc; done)
/-- What asks of maps alone; what writes blocks alone. -/
def AOp.mapOnly : AOp → Bool
  | .lookup .. | .mlen _ => true
  | _ => false
def AOp.blkOnly : AOp → Bool
  | .store .. | .storeF .. => true
  | _ => false
/-- The first asks nothing of what the second may write. -/
def calmFor (x y : AOp) : Bool := x.calm || (x.mapOnly && y.blkOnly)
theorem evF_maps {P : Program} {op : AOp} (hc : op.mapOnly = true) {e : Env} {h h' : AH} (hm : h'.mp = h.mp) {K : AV → Prop} (hk : evF P op e h K) : evF P op e h' K := by
  unfold evF at *
  cases op <;> first | (simp [AOp.mapOnly] at hc; done) | (simp only [hm]; exact hk)
theorem evS_blks {P : Program} {op : AOp} (hc : op.blkOnly = true) {e : Env} {h : AH} {K : AV → AH → Prop} (hk : evS P op e h K) : evS P op e h fun v h' => h'.mp = h.mp ∧ K v h' := by
  unfold evS at *
  cases op <;> try (simp [AOp.blkOnly] at hc; done)
  case store n x y =>
    simp only at hk ⊢
    split at hk
    · obtain ⟨cs, h1, h2, h3, h4, h5⟩ := hk
      exact ⟨cs, h1, h2, h3, h4, rfl, h5⟩
    · exact hk.elim
  case storeF n x y =>
    simp only at hk ⊢
    split at hk
    · obtain ⟨cs, h1, h2, h3, h4, h5⟩ := hk
      exact ⟨cs, h1, h2, h3, h4, rfl, h5⟩
    · exact hk.elim
theorem evF_either {P : Program} {op : AOp} {e e' : Env} {h h' : AH} (ha : Agree op.slots e e') (hl : AH.leB h h' ∨ op.calm = true ∨ (op.mapOnly = true ∧ h'.mp = h.mp)) {K : AV → Prop} (hk : evF P op e h K) : evF P op e' h' K := by
  rcases hl with hl | hc | ⟨hc, hm⟩
  · exact evF_agree ha hl hk
  · exact evF_calm hc (evF_agree ha (AH.leB.refl h) hk)
  · exact evF_maps hc hm (evF_agree ha (AH.leB.refl h) hk)

def AOp.light : AOp → Bool
  | .alloc _ | .box _ | .makeSlice .. | .append .. | .appendM .. | .makeMap => true
  | _ => false

/-- What only makes something new: it can be asked besides what was there, and asks no more where the slots agree. -/
theorem evS_agree {P : Program} {op : AOp} (hlt : op.light = true) {e e' : Env} {h : AH} (ha : Agree op.slots e e') {K : AV → AH → Prop} (hk : evS P op e h K) : evS P op e' h (fun v h' => AH.leB h h' ∧ K v h') := by
  unfold evS at *
  cases op <;> try (simp [AOp.light] at hlt; done)
  all_goals simp only [AOp.slots] at ha hk ⊢
  case alloc z => exact fun b hb => ⟨AH.leB_put hb, hk b hb⟩
  case box x => rw [Arg.ev_agree ha]; exact ⟨hk.1, hk.2.1, fun b hb => ⟨AH.leB_put hb, hk.2.2 b hb⟩⟩
  case makeSlice size bytes z l c =>
    rw [Arg.ev_agree ha.left, Arg.ev_agree ha.right]
    split
    · rename_i heq heq2
      rw [heq, heq2] at hk
      obtain ⟨h1, h2, h3, h4, h5⟩ := hk
      exact ⟨h1, h2, h3, h4, fun b hb => ⟨AH.leB_put hb, h5 b hb⟩⟩
    · rename_i hne
      split at hk
      · rename_i h1 h2; exact (hne _ _ _ _ h1 h2).elim
      · exact hk
  case append size bytes x y =>
    rw [Arg.ev_agree ha.left, Arg.ev_agree ha.right]
    generalize x.ev e = z at hk
    have key : ∀ (T : Nat → List AV → Prop) (T' : Nat → List AV → Prop), (∀ m ys, T m ys → T' m ys) → rdSl size h (y.ev e) T → rdSl size h (y.ev e) T' := by
      intro T T' hT hr
      generalize y.ev e = q at hr ⊢
      unfold rdSl at hr ⊢
      cases q <;> simp only at hr ⊢ <;> first | exact hr | exact ⟨hr.1, hT _ _ hr.2⟩ | (obtain ⟨cs, h1, h2, h3⟩ := hr; exact ⟨cs, h1, h2, hT _ _ h3⟩)
    cases z <;> (try simp only at hk ⊢) <;> try exact hk
    rename_i nl n cs tl
    cases tl <;> simp only at hk ⊢ <;> try exact hk
    · exact ⟨hk.1, key _ _ (fun m ys ⟨a1, a2, a3⟩ => ⟨a1, a2, fun t ht => ⟨AH.leB_setTok h _ _ _, a3 t ht⟩⟩) hk.2⟩
    · exact ⟨hk.1, hk.2.1, key _ _ (fun m ys ⟨a1, a2, a3⟩ => ⟨a1, a2, AH.leB_setTok h _ _ _, a3⟩) hk.2.2⟩
  case appendM size bytes x y =>
    rw [Arg.ev_agree ha.left, Arg.ev_agree ha.right]
    generalize x.ev e = z at hk
    have key : ∀ (T : Nat → List AV → Prop) (T' : Nat → List AV → Prop), (∀ m ys, T m ys → T' m ys) → rdSl size h (y.ev e) T → rdSl size h (y.ev e) T' := by
      intro T T' hT hr
      generalize y.ev e = q at hr ⊢
      unfold rdSl at hr ⊢
      cases q <;> simp only at hr ⊢ <;> first | exact hr | exact ⟨hr.1, hT _ _ hr.2⟩ | (obtain ⟨cs, h1, h2, h3⟩ := hr; exact ⟨cs, h1, h2, hT _ _ h3⟩)
    cases z <;> (try simp only at hk ⊢) <;> try exact hk
    rename_i nl n cs tl
    cases tl <;> simp only at hk ⊢ <;> try exact hk
    exact ⟨hk.1, key _ _ (fun m ys ⟨a0, a1, a2, a3⟩ => ⟨a0, a1, a2, fun b hb => ⟨AH.leB_put hb, a3 b hb⟩⟩) hk.2⟩
  case makeMap => exact fun b hb => ⟨AH.leB_putM hb, hk b hb⟩

theorem evS_imp {P : Program} {op : AOp} {e e' : Env} {h : AH} (ha : Agree op.slots e e') {K K' : AV → AH → Prop} (hi : ∀ v h', K v h' → K' v h') (hk : evS P op e h K) : evS P op e' h K' := by
  unfold evS at *
  have key : ∀ (size : Nat) (y : AV) (T : Nat → List AV → Prop) (T' : Nat → List AV → Prop), (∀ m ys, T m ys → T' m ys) → rdSl size h y T → rdSl size h y T' := by
    intro size y T T' hT hr
    unfold rdSl at hr ⊢
    cases y <;> simp only at hr ⊢ <;> first | exact hr | exact ⟨hr.1, hT _ _ hr.2⟩ | (obtain ⟨cs, h1, h2, h3⟩ := hr; exact ⟨cs, h1, h2, hT _ _ h3⟩)
  have ac : ∀ {f : FuncId} {args : List AV}, ACalls P f args h K → ACalls P f args h K' := fun ⟨h1, h2⟩ => ⟨h1, fun s vs w hv hs => (h2 s vs w hv hs).mono fun _ _ ⟨s', r, v, h', a1, a2, a3, a4, a5⟩ => ⟨s', r, v, h', a1, a2, a3, a4, hi _ _ a5⟩⟩
  cases op <;> simp only [AOp.slots] at ha hk ⊢ <;> try exact hk
  case alloc z => exact fun b hb => hi _ _ (hk b hb)
  case box x => rw [Arg.ev_agree ha]; exact ⟨hk.1, hk.2.1, fun b hb => hi _ _ (hk.2.2 b hb)⟩
  case makeSlice size bytes z l c =>
    rw [Arg.ev_agree ha.left, Arg.ev_agree ha.right]
    split
    · rename_i heq heq2
      rw [heq, heq2] at hk
      obtain ⟨h1, h2, h3, h4, h5⟩ := hk
      exact ⟨h1, h2, h3, h4, fun b hb => hi _ _ (h5 b hb)⟩
    · rename_i hne
      split at hk
      · rename_i h1 h2; exact (hne _ _ _ _ h1 h2).elim
      · exact hk
  case append size bytes x y =>
    rw [Arg.ev_agree ha.left, Arg.ev_agree ha.right]
    generalize x.ev e = z at hk
    cases z <;> (try simp only at hk ⊢) <;> try exact hk
    rename_i nl n cs tl
    cases tl <;> simp only at hk ⊢ <;> try exact hk
    · exact ⟨hk.1, key _ _ _ _ (fun m ys ⟨a1, a2, a3⟩ => ⟨a1, a2, fun t ht => hi _ _ (a3 t ht)⟩) hk.2⟩
    · exact ⟨hk.1, hk.2.1, key _ _ _ _ (fun m ys ⟨a1, a2, a3⟩ => ⟨a1, a2, hi _ _ a3⟩) hk.2.2⟩
  case store n x y =>
    rw [Arg.ev_agree ha.left, Arg.ev_agree ha.right]
    generalize x.ev e = z at hk
    cases z <;> simp only at hk ⊢ <;> try exact hk
    obtain ⟨cs, h1, h2, h3, h4, h5⟩ := hk
    exact ⟨cs, h1, h2, h3, h4, hi _ _ h5⟩
  case storeF n x y =>
    rw [Arg.ev_agree ha.left, Arg.ev_agree ha.right]
    generalize x.ev e = z at hk
    split
    · rename_i b
      simp only at hk
      obtain ⟨cs, h1, h2, h3, h4, h5⟩ := hk
      exact ⟨cs, h1, h2, h3, h4, hi _ _ h5⟩
    · rename_i hne
      split at hk
      · rename_i b; exact absurd rfl (hne b)
      · exact hk
  case copy size x y =>
    rw [Arg.ev_agree ha.left, Arg.ev_agree ha.right]
    generalize x.ev e = z at hk
    cases z <;> simp only at hk ⊢ <;> try exact hk
    obtain ⟨cs, h1, h2, h3⟩ := hk
    exact ⟨cs, h1, h2, key _ _ _ _ (fun m ys ⟨a1, a2⟩ => ⟨a1, hi _ _ a2⟩) h3⟩
  case appendM size bytes x y =>
    rw [Arg.ev_agree ha.left, Arg.ev_agree ha.right]
    generalize x.ev e = z at hk
    cases z <;> (try simp only at hk ⊢) <;> try exact hk
    rename_i nl n cs tl
    cases tl <;> simp only at hk ⊢ <;> try exact hk
    exact ⟨hk.1, key _ _ _ _ (fun m ys ⟨a0, a1, a2, a3⟩ => ⟨a0, a1, a2, fun b hb => hi _ _ (a3 b hb)⟩) hk.2⟩
  case appendI size bytes x y =>
    rw [Arg.ev_agree ha.left, Arg.ev_agree ha.right]
    generalize x.ev e = z at hk
    cases z <;> (try simp only at hk ⊢) <;> try exact hk
    · rename_i nl n cs tl
      cases tl <;> simp only at hk ⊢ <;> try exact hk
      exact ⟨hk.1, key _ _ _ _ (fun m ys ⟨a0, a1, a2, a3⟩ => ⟨a0, a1, a2, fun b q hq hb => hi _ _ (a3 b q hq hb)⟩) hk.2⟩
    · rename_i b off n cap
      cases cap <;> simp only at hk ⊢ <;> try exact hk
      exact key _ _ _ _ (fun m ys ⟨cs, a1, a2, a3, a4, a5, a6⟩ => ⟨cs, a1, a2, a3, a4, fun hh => ⟨(a5 hh).1, hi _ _ (a5 hh).2⟩, fun hh b' q' h1 h2 => hi _ _ (a6 hh b' q' h1 h2)⟩) hk
  case clear size z x =>
    rw [Arg.ev_agree ha]
    generalize x.ev e = y at hk
    cases y <;> simp only at hk ⊢ <;> try exact hk
    obtain ⟨cs, h1, h2, h3⟩ := hk
    exact ⟨cs, h1, h2, hi _ _ h3⟩
  case makeMap => exact fun b hb => hi _ _ (hk b hb)
  case mapUpdate kd m i x =>
    rw [Arg.ev_agree ha.left, Arg.ev_agree ha.right.left, Arg.ev_agree ha.right.right]
    generalize m.ev e = y at hk
    cases y <;> simp only at hk ⊢ <;> try exact hk
    obtain ⟨es, es', h1, h2, h3⟩ := hk
    exact ⟨es, es', h1, h2, hi _ _ h3⟩
  case call f as => rw [evs_agree ha]; exact ac hk
  case callv g as =>
    rw [Arg.ev_agree ha.left, evs_agree ha.right]
    generalize g.ev e = z at hk
    cases z <;> simp only at hk ⊢ <;> try exact hk
    exact ac hk

/-- A new block may be made ahead of what only makes something new. -/
theorem evS_ahead {P : Program} {op : AOp} (hlt : op.light = true) {e e' : Env} {h : AH} (ha : Agree op.slots e e') {b : Nat} {z : List AV} {Φ : AV → AH → Prop} (hb : h.blk b = none)
    (hk : evS P op e h (fun v h1 => h1.blk b = none → Φ v (h1.put b z))) : evS P op e' (h.put b z) Φ := by
  have hl : AH.leB h (h.put b z) := AH.leB_put hb
  unfold evS at *
  have fresh : ∀ b', (h.put b z).blk b' = none → h.blk b' = none ∧ b ≠ b' := by
    intro b' hb'
    have hne : b' ≠ b := fun hh => by
      subst hh
      have : (h.put b' z).blk b' = some z := if_pos rfl
      rw [this] at hb'; cases hb'
    refine ⟨?_, fun hh => hne hh.symm⟩
    have : (h.put b z).blk b' = h.blk b' := if_neg hne
    rwa [this] at hb'
  have stays : ∀ b' cs, b ≠ b' → (h.put b' cs).blk b = none := fun b' cs hne => by
    have : (h.put b' cs).blk b = h.blk b := if_neg hne
    rw [this]; exact hb
  have comm : ∀ b' cs, b ≠ b' → (h.put b' cs).put b z = (h.put b z).put b' cs := fun b' cs hne => by
    simp only [AH.put, AH.mk.injEq, and_true]
    funext d
    by_cases hd : d = b
    · subst hd; simp [hne]
    · simp [hd]
  cases op <;> try (simp [AOp.light] at hlt; done)
  all_goals simp only [AOp.slots] at ha hk ⊢
  case alloc z' =>
    intro b' hb'
    obtain ⟨f1, f2⟩ := fresh b' hb'
    have := hk b' f1 (stays b' z' f2)
    rwa [comm b' z' f2] at this
  case box x =>
    rw [Arg.ev_agree ha]
    refine ⟨hk.1, hk.2.1, fun b' hb' => ?_⟩
    obtain ⟨f1, f2⟩ := fresh b' hb'
    have := hk.2.2 b' f1 (stays b' _ f2)
    rwa [comm b' _ f2] at this
  case makeSlice size bytes z' l c =>
    rw [Arg.ev_agree ha.left, Arg.ev_agree ha.right]
    split
    · rename_i heq heq2
      rw [heq, heq2] at hk
      obtain ⟨h1, h2, h3, h4, h5⟩ := hk
      refine ⟨h1, h2, h3, h4, fun b' hb' => ?_⟩
      obtain ⟨f1, f2⟩ := fresh b' hb'
      have := h5 b' f1 (stays b' _ f2)
      rwa [comm b' _ f2] at this
    · rename_i hne
      split at hk
      · rename_i h1 h2; exact (hne _ _ _ _ h1 h2).elim
      · exact hk
  case append size bytes x y =>
    rw [Arg.ev_agree ha.left, Arg.ev_agree ha.right]
    generalize x.ev e = w at hk
    have key : ∀ (T : Nat → List AV → Prop) (T' : Nat → List AV → Prop), (∀ m ys, T m ys → T' m ys) → rdSl size h (y.ev e) T → rdSl size (h.put b z) (y.ev e) T' := by
      intro T T' hT hr
      have hr := rdSl_leB hl hr
      generalize y.ev e = q at hr ⊢
      unfold rdSl at hr ⊢
      cases q <;> simp only at hr ⊢ <;> first | exact hr | exact ⟨hr.1, hT _ _ hr.2⟩ | (obtain ⟨cs, h1, h2, h3⟩ := hr; exact ⟨cs, h1, h2, hT _ _ h3⟩)
    cases w <;> (try simp only at hk ⊢) <;> try exact hk
    rename_i nl n cs tl
    cases tl <;> simp only at hk ⊢ <;> try exact hk
    · exact ⟨hk.1, key _ _ (fun m ys ⟨a1, a2, a3⟩ => ⟨a1, a2, fun t ht => a3 t ht hb⟩) hk.2⟩
    · exact ⟨hk.1, hk.2.1, key _ _ (fun m ys ⟨a1, a2, a3⟩ => ⟨a1, a2, a3 hb⟩) hk.2.2⟩
  case appendM size bytes x y =>
    rw [Arg.ev_agree ha.left, Arg.ev_agree ha.right]
    generalize x.ev e = w at hk
    have key : ∀ (T : Nat → List AV → Prop) (T' : Nat → List AV → Prop), (∀ m ys, T m ys → T' m ys) → rdSl size h (y.ev e) T → rdSl size (h.put b z) (y.ev e) T' := by
      intro T T' hT hr
      have hr := rdSl_leB hl hr
      generalize y.ev e = q at hr ⊢
      unfold rdSl at hr ⊢
      cases q <;> simp only at hr ⊢ <;> first | exact hr | exact ⟨hr.1, hT _ _ hr.2⟩ | (obtain ⟨cs, h1, h2, h3⟩ := hr; exact ⟨cs, h1, h2, hT _ _ h3⟩)
    cases w <;> (try simp only at hk ⊢) <;> try exact hk
    rename_i nl n cs tl
    cases tl <;> simp only at hk ⊢ <;> try exact hk
    refine ⟨hk.1, key _ _ (fun m ys ⟨a0, a1, a2, a3⟩ => ⟨a0, a1, a2, fun b' hb' => ?_⟩) hk.2⟩
    obtain ⟨f1, f2⟩ := fresh b' hb'
    have := a3 b' f1 (stays b' _ f2)
    rwa [comm b' _ f2] at this
  case makeMap => exact fun b' hb' => hk b' hb' hb
end Go.Abs
