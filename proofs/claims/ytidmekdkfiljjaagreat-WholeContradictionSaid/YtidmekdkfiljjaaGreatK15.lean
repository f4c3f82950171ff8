/- Soundness of a compiled operation. No condition. -/
import Derived.Test.YtidmekdkfiljjaaGreatK14
namespace Go.Abs
open Go

theorem map_some {α β : Type} {x : Option α} {f : α → β} {b : β} (h : x.map f = some b) : ∃ a, x = some a ∧ f a = b := by
  cases x with
  | none => cases h
  | some a => exact ⟨a, rfl, by cases h; rfl⟩

def Snd (P : Program) (o : Oper) (op : AOp) : Prop := FSound P o op ∧ SSound P o op

theorem cEq_snd {P : Program} {o : Oper} {t t' : TypeId} {x y : Operand} {ax ay : Arg} {neg : Bool} {op : AOp} (ho : o.op = .binOp (if neg then .neq else .eql) t x y t') (hx : cArg x = some ax) (hy : cArg y = some ay)
    (h : cEq P t neg ax ay (if neg then .neq else .eql) = some op) : Snd P o op := by
  unfold cEq at h
  obtain ⟨d, hd, h⟩ := bind_some h
  split at h
  · cases h; exact ⟨sF_bin ho hx hy, fun _ _ hk => hk.elim⟩
  · cases h; exact ⟨sF_bin ho hx hy, fun _ _ hk => hk.elim⟩
  · cases h; exact ⟨sF_eq_bool ho hd hx hy, fun _ _ hk => hk.elim⟩
  · cases h; exact ⟨sF_eq_slice ho hd hx hy, fun _ _ hk => hk.elim⟩
  · cases h; exact ⟨sF_eq_func ho hd hx hy, fun _ _ hk => hk.elim⟩
  · cases h; exact ⟨sF_eq_ptr ho hd hx hy, fun _ _ hk => hk.elim⟩
  · split at h
    · rename_i hc
      simp only [Bool.and_eq_true, Bool.not_eq_true'] at hc
      cases h
      exact ⟨sF_eq_ints ho hd hc.1.1 hc.1.2 hc.2 hx hy, fun _ _ hk => hk.elim⟩
    · cases h
  · cases h

theorem cBuiltin_snd {P : Program} {o : Oper} {c : Call} {b : Builtin} {op : AOp} (ho : o.op = .call c) (hc : c.callee = .builtin b) (h : cBuiltin P b c.argTypes c.args.toList = some op) : Snd P o op := by
  unfold cBuiltin at h
  split at h
  · rename_i t x hty ha
    have ha' : c.args = #[x] := by apply Array.ext'; simpa using ha
    have hty' : c.argTypes = #[t] := by apply Array.ext'; simpa using hty
    obtain ⟨d, hd, h⟩ := bind_some h
    split at h
    · obtain ⟨ax, hx, rfl⟩ := map_some h
      exact ⟨sF_len ho hc ha' hty' hd hx, fun _ _ hk => hk.elim⟩
    · obtain ⟨ax, hx, rfl⟩ := map_some h
      exact ⟨sF_mlen ho hc ha' hty' hd hx, fun _ _ hk => hk.elim⟩
    · cases h
  · rename_i t x hty ha
    have ha' : c.args = #[x] := by apply Array.ext'; simpa using ha
    have hty' : c.argTypes = #[t] := by apply Array.ext'; simpa using hty
    obtain ⟨e', he, h⟩ := bind_some h
    obtain ⟨n, hn, h⟩ := bind_some h
    obtain ⟨z, hz, h⟩ := bind_some h
    split at h
    · cases h
    · rename_i h0
      obtain ⟨ax, hx, h⟩ := bind_some h
      cases h
      exact ⟨fun _ _ hk => hk.elim, sS_clear ho hc ha' hty' (elemT_inv he) hz hn h0 hx⟩
  · rename_i x y ha
    have ha' : c.args = #[x, y] := by apply Array.ext'; simpa using ha
    obtain ⟨ax, hx, h⟩ := bind_some h
    obtain ⟨ay, hy, h⟩ := bind_some h
    cases h
    exact ⟨sF_max ho hc ha' hx hy, fun _ _ hk => hk.elim⟩
  · rename_i x y ha
    have ha' : c.args = #[x, y] := by apply Array.ext'; simpa using ha
    obtain ⟨ax, hx, h⟩ := bind_some h
    obtain ⟨ay, hy, h⟩ := bind_some h
    cases h
    exact ⟨sF_min ho hc ha' hx hy, fun _ _ hk => hk.elim⟩
  · rename_i t u x y hty ha
    have ha' : c.args = #[x, y] := by apply Array.ext'; simpa using ha
    have hty' : c.argTypes = #[t, u] := by apply Array.ext'; simpa using hty
    split at h
    · cases h
    · rename_i htu
      have htu' : t = u := Decidable.not_not.mp htu
      subst htu'
      obtain ⟨e', he, h⟩ := bind_some h
      obtain ⟨i, hi, h⟩ := bind_some h
      obtain ⟨z, hz, h⟩ := bind_some h
      split at h
      · cases h
      · obtain ⟨ax, hx, h⟩ := bind_some h
        obtain ⟨ay, hy, h⟩ := bind_some h
        cases h
        exact ⟨sF_append ho hc ha' hty' (elemT_inv he) hi hz hx hy, sS_append ho hc ha' hty' (elemT_inv he) hi hz hx hy⟩
  · rename_i t u x y hty ha
    have ha' : c.args = #[x, y] := by apply Array.ext'; simpa using ha
    have hty' : c.argTypes = #[t, u] := by apply Array.ext'; simpa using hty
    obtain ⟨e', he, h⟩ := bind_some h
    obtain ⟨n, hn, h⟩ := bind_some h
    obtain ⟨ax, hx, h⟩ := bind_some h
    obtain ⟨ay, hy, h⟩ := bind_some h
    cases h
    exact ⟨fun _ _ hk => hk.elim, sS_copy ho hc ha' hty' (elemT_inv he) hn hx hy⟩
  · cases h

/-- A block that may be written becomes fixed. -/
theorem HSim.fix {s : Sg} {h : AH} {w0 : World} {own : Nat → Prop} {w : World} (k : HSim s h w0 own w) {b : Nat} {cs : List AV} (hb : h.blk b = some cs) :
    ∃ s' c vs, s.le s' ∧ HSim s' (h.del b) w0 own w ∧ s.blk b = some c ∧ VRels s' cs vs ∧ ∀ (j : Nat) (v : Value), vs[j]? = some v → s'.fx c j = some v := by
  obtain ⟨c, vs, e, a1, a2, a3, a4, a5, a6⟩ := k.blk b cs hb
  have hdel : (h.del b).le h := ⟨fun x c' ex => by
    simp only [AH.del] at ex
    split at ex
    · cases ex
    · exact ex, fun _ _ ex => ex, fun _ _ ex => ex⟩
  have hr : VRels s cs (vs.toList.take cs.length) := ⟨by simp; omega, fun j x v hx hv => by
    obtain ⟨v', hv', _, hr⟩ := a4 j x hx
    rw [List.getElem?_take] at hv
    split at hv
    · have : vs[j]? = some v := by simpa using hv
      rw [hv'] at this; cases this; exact hr
    · cases hv⟩
  obtain ⟨l1, l2⟩ := (k.weaken hdel).addFx a2 (vs.toList.take cs.length) (fun j v hv => by
    rw [List.getElem?_take] at hv
    split at hv
    · simpa using hv
    · cases hv) (fun v hv => by
      obtain ⟨j, hj, rfl⟩ := List.getElem_of_mem hv
      have hj' := List.getElem?_eq_getElem hj
      have hjl : j < cs.length := by rw [← hr.1]; exact hj
      obtain ⟨v', hv', ho, _⟩ := a4 j _ (List.getElem?_eq_getElem hjl)
      rw [List.getElem?_take, if_pos hjl] at hj'
      have hx : vs[j]? = some ((vs.toList.take cs.length)[j]) := by simpa only [Array.getElem?_toList] using hj'
      rw [hv'] at hx; cases hx; exact ho) a5 (fun b' hb' hs' => by
      have hne : h.blk b' ≠ none := fun hn => hb' (by simp only [AH.del]; split; rfl; exact hn)
      have : b' = b := k.inj b' b c hne (by rw [hb]; simp) hs' a1
      subst this
      exact hb' (by simp [AH.del])) (fun t n i e1 e2 e3 e4 => k.tokblk t n i b e1 e2 e3 (by rw [hb]; simp) (by rw [e4]; exact a1))
  refine ⟨_, c, vs.toList.take cs.length, l1, l2, a1, hr.mono l1, fun j v hv => ?_⟩
  simp [Sg.fxNew, hv]

/-- What is fixed is read wherever the heap stands. -/
theorem sF_loadF {P : Program} {o : Oper} {sz : Option Nat} {ax : Arg} (hl : FSound P o (.load sz ax)) : FSound P o (.loadF sz ax) := by
  intro N s e h w0 own a w hs K hk next Q hn
  refine hl hs ?_ next Q hn
  simp only [evF] at hk ⊢
  split at hk
  · rename_i cs hb
    rw [hb]; exact hk
  · exact hk.elim
/-- A new block that is not written becomes fixed at once. -/
theorem sF_boxF {P : Program} {o : Oper} {ax : Arg} (hb : SSound P o (.box ax)) : FSound P o (.boxF none ax) := by
  intro N s e h w0 own a w hs K hk next Q hn
  obtain ⟨h0, h1, hk⟩ := hk
  have hpos : (ax.ev e).cells.length > 0 := by simpa [lenOK] using h0
  refine hb hs (K := fun v h' => ∃ b, v = .ptr b 0 ∧ h' = h.put b (ax.ev e).cells ∧ h.blk b = none) ⟨hpos, h1, fun b hb => ⟨b, rfl, rfl, hb⟩⟩ next Q ?_
  rintro s' x v h' w' l1 l2 l3 ⟨b, rfl, rfl, hfr⟩
  obtain ⟨s'', c, vs, m1, m2, m3, m4, m5⟩ := l2.fix (b := b) (cs := (ax.ev e).cells) (by simp [AH.put])
  have hh : (h.put b (ax.ev e).cells).del b = h := by
    simp only [AH.put, AH.del]
    congr 1
    funext y
    split
    · rename_i hy; subst hy; exact hfr.symm
    · rfl
  rw [hh] at m2
  refine hn s'' _ v w' (l1.trans m1) m2 ?_ hk
  obtain ⟨c', ev, hc'⟩ := l3.ptr_inv
  rw [m3] at hc'
  cases hc'
  subst ev
  exact .sptr _ _ vs m4.1 m4.2 rfl (fun j v hv => by rw [Nat.zero_add]; exact m5 j v hv)

theorem spl_full {α : Type} : ∀ (xs cs pre : List α), xs.length = cs.length → spl (pre ++ cs) pre.length xs = pre ++ xs := by
  intro xs
  induction xs with
  | nil => intro cs pre h; have : cs = [] := List.eq_nil_of_length_eq_zero h.symm; subst this; rfl
  | cons x xs ih =>
    intro cs pre h
    cases cs with
    | nil => simp at h
    | cons c cs =>
      have : (pre ++ c :: cs).set pre.length x = (pre ++ [x]) ++ cs := by
        rw [List.set_append_right _ _ (Nat.le_refl _)]; simp
      rw [spl, this]
      have := ih cs (pre ++ [x]) (by simpa using h)
      simp only [List.length_append, List.length_singleton, List.append_assoc, List.singleton_append] at this ⊢
      exact this

theorem cOp_snd {P : Program} {o : Oper} {op : AOp} (h : cOp P o.op = some op) : Snd P o op := by
  generalize ho : o.op = p at h
  cases p
  case move x => obtain ⟨ax, hx, rfl⟩ := map_some h; exact ⟨sF_mv (.inl ho) hx, fun _ _ hk => hk.elim⟩
  case assign x => obtain ⟨ax, hx, rfl⟩ := map_some h; exact ⟨sF_mv (.inr ho) hx, fun _ _ hk => hk.elim⟩
  case pick c x y =>
    obtain ⟨ac, hc, h⟩ := bind_some h
    obtain ⟨ax, hx, h⟩ := bind_some h
    obtain ⟨ay, hy, h⟩ := bind_some h
    cases h
    exact ⟨sF_pick ho hc hx hy, fun _ _ hk => hk.elim⟩
  case binOp b t x y t' =>
    obtain ⟨ax, hx, h⟩ := bind_some h
    obtain ⟨ay, hy, h⟩ := bind_some h
    cases b
    case eql => exact cEq_snd (neg := false) ho hx hy h
    case neq => exact cEq_snd (neg := true) ho hx hy h
    all_goals (cases h; exact ⟨sF_bin ho hx hy, fun _ _ hk => hk.elim⟩)
  case unOp u t x =>
    obtain ⟨ax, hx, h⟩ := bind_some h
    cases h
    exact ⟨sF_un ho hx, fun _ _ hk => hk.elim⟩
  case convert s d x =>
    obtain ⟨ds, hs, h⟩ := bind_some h
    obtain ⟨dd, hd, h⟩ := bind_some h
    split at h
    · obtain ⟨ax, hx, rfl⟩ := map_some h
      exact ⟨sF_conv ho hs hd hx, fun _ _ hk => hk.elim⟩
    · cases h
  case load t x =>
    obtain ⟨sz, hz, h⟩ := bind_some h
    obtain ⟨ax, hx, h⟩ := bind_some h
    cases h
    exact ⟨sF_load ho hz hx, fun _ _ hk => hk.elim⟩
  case store t x y =>
    obtain ⟨n, hn, h⟩ := bind_some h
    obtain ⟨ax, hx, h⟩ := bind_some h
    obtain ⟨ay, hy, h⟩ := bind_some h
    cases h
    exact ⟨fun _ _ hk => hk.elim, sS_store ho hn hx hy⟩
  case alloc t => obtain ⟨z, hz, rfl⟩ := map_some h; exact ⟨fun _ _ hk => hk.elim, sS_alloc ho hz⟩
  case box t x => obtain ⟨ax, hx, rfl⟩ := map_some h; exact ⟨fun _ _ hk => hk.elim, sS_box ho hx⟩
  case fieldAddr t x f =>
    obtain ⟨fd, hf, h⟩ := bind_some h
    obtain ⟨n, hn, h⟩ := bind_some h
    split at h
    · cases h
    · rename_i h0
      obtain ⟨ax, hx, h⟩ := bind_some h
      cases h
      exact ⟨sF_fieldAddr ho hf hn h0 hx, fun _ _ hk => hk.elim⟩
  case field t x f =>
    obtain ⟨fd, hf, h⟩ := bind_some h
    obtain ⟨sz, hz, h⟩ := bind_some h
    obtain ⟨ax, hx, h⟩ := bind_some h
    cases h
    exact ⟨sF_field ho hf hz hx, fun _ _ hk => hk.elim⟩
  case indexAddr t x i =>
    obtain ⟨d, hd, h⟩ := bind_some h
    split at h
    · obtain ⟨n, hn, h⟩ := bind_some h
      obtain ⟨ax, hx, h⟩ := bind_some h
      obtain ⟨ai, hi, h⟩ := bind_some h
      cases h
      exact ⟨sF_indexAddr ho hd hn hx hi, fun _ _ hk => hk.elim⟩
    · obtain ⟨n, hn, h⟩ := bind_some h
      obtain ⟨ax, hx, h⟩ := bind_some h
      obtain ⟨ai, hi, h⟩ := bind_some h
      cases h
      exact ⟨sF_indexArr ho hd hn hx hi, fun _ _ hk => hk.elim⟩
    · cases h
  case slice t x lo hi mx =>
    obtain ⟨e', he, h⟩ := bind_some h
    split at h
    · cases h
    · rename_i hmh
      obtain ⟨n, hn, h⟩ := bind_some h
      obtain ⟨ax, hx, h⟩ := bind_some h
      obtain ⟨al, hl, h⟩ := bind_some h
      obtain ⟨ah, hh, h⟩ := bind_some h
      obtain ⟨am, hm, h⟩ := bind_some h
      cases h
      exact ⟨sF_slice ho (elemT_inv he) hn hx hl hh hm (by cases hq : (mx.isSome && hi.isNone) with | false => rfl | true => exact absurd hq hmh), fun _ _ hk => hk.elim⟩
  case build t parts =>
    obtain ⟨d, hd, h⟩ := bind_some h
    split at h
    · obtain ⟨z, hz, h⟩ := bind_some h
      obtain ⟨pl, hpl, h⟩ := bind_some h
      obtain ⟨ps, hps, h⟩ := bind_some h
      cases h
      exact ⟨sF_build ho hd hz hpl hps, fun _ _ hk => hk.elim⟩
    · cases h
  case buildSlice t n parts =>
    obtain ⟨e', he, h⟩ := bind_some h
    obtain ⟨size, hz, h⟩ := bind_some h
    obtain ⟨ps, hps, h⟩ := bind_some h
    obtain ⟨z, hzz, h⟩ := bind_some h
    split at h
    · cases h
    · rename_i h0
      cases h
      exact ⟨sF_buildSlice ho (elemT_inv he) hz (fun hb => h0 (.inl hb)) hzz (fun hb => h0 (.inr hb)) hps, fun _ _ hk => hk.elim⟩
  case makeSlice t l c =>
    obtain ⟨e', he, h⟩ := bind_some h
    obtain ⟨i, hi, h⟩ := bind_some h
    obtain ⟨z, hz, h⟩ := bind_some h
    split at h
    · cases h
    · rename_i h0
      obtain ⟨al, hl, h⟩ := bind_some h
      obtain ⟨ac, hc, h⟩ := bind_some h
      cases h
      exact ⟨fun _ _ hk => hk.elim, sS_makeSlice ho (elemT_inv he) hi hz h0 hl hc⟩
  case makeFunc f first caps =>
    cases f
    case func f =>
      obtain ⟨as, has, h'⟩ := bind_some h
      clear h
      split at h'
      · rename_i hf
        have hf' : first = #[] := by apply Array.ext'; simpa using hf
        subst hf'
        cases h'
        exact ⟨sF_makeFunc ho has, fun _ _ hk => hk.elim⟩
      · cases h'
    all_goals (cases h)
  case extract x i =>
    obtain ⟨ax, hx, h⟩ := bind_some h
    cases h
    exact ⟨sF_extract ho hx, fun _ _ hk => hk.elim⟩
  case nilCheck x => obtain ⟨ax, hx, rfl⟩ := map_some h; exact ⟨sF_nilCheck ho hx, fun _ _ hk => hk.elim⟩
  case index t x i =>
    obtain ⟨d, hd, h⟩ := bind_some h
    split at h
    · obtain ⟨ax, hx, h⟩ := bind_some h
      obtain ⟨ai, hi, h⟩ := bind_some h
      cases h
      exact ⟨sF_strIndex ho hd hx hi, fun _ _ hk => hk.elim⟩
    · cases h
  case makeMap t r =>
    obtain ⟨m, hm, h⟩ := bind_some h
    cases r with
    | some _ => simp at h
    | none => simp at h; subst h; exact ⟨fun _ _ hk => hk.elim, sS_makeMap ho⟩
  case lookup t m i ok =>
    obtain ⟨⟨k, e', kd⟩, hm, h⟩ := bind_some h
    obtain ⟨z, hz, h⟩ := bind_some h
    obtain ⟨am, hx, h⟩ := bind_some h
    obtain ⟨ai, hi, h⟩ := bind_some h
    cases h
    exact ⟨sF_lookup ho hm hz hx hi, fun _ _ hk => hk.elim⟩
  case mapUpdate t m i x =>
    obtain ⟨⟨k, e', kd⟩, hm, h⟩ := bind_some h
    obtain ⟨am, hx, h⟩ := bind_some h
    obtain ⟨ai, hi, h⟩ := bind_some h
    obtain ⟨ax, hxx, h⟩ := bind_some h
    cases h
    exact ⟨fun _ _ hk => hk.elim, sS_mapUpdate ho hm hx hi hxx⟩
  case call c =>
    simp only [cOp] at h
    split at h
    · rename_i f hc
      obtain ⟨as, has, h⟩ := bind_some h
      cases h
      exact ⟨sF_call ho hc has, sS_call ho hc has⟩
    · rename_i t hc
      obtain ⟨as, has, h⟩ := bind_some h
      cases h
      exact ⟨sF_callv ho hc has, sS_callv ho hc has⟩
    · rename_i b hc
      exact cBuiltin_snd ho hc h
    · cases h
  all_goals (cases h)

/-- An append that is compiled otherwise. -/
theorem cApp_snd {P : Program} {o : Oper} {size bytes : Nat} {ax ay : Arg} (h : cOp P o.op = some (.append size bytes ax ay)) : Snd P o (.appendM size bytes ax ay) ∧ Snd P o (.appendI size bytes ax ay) := by
  have key : ∃ c, o.op = .call c ∧ ∃ b, c.callee = .builtin b ∧ cBuiltin P b c.argTypes c.args.toList = some (.append size bytes ax ay) := by
    generalize ho : o.op = p at h
    cases p
    case call c =>
      simp only [cOp] at h
      split at h
      · obtain ⟨as, has, h⟩ := bind_some h; cases h
      · obtain ⟨as, has, h⟩ := bind_some h; cases h
      · rename_i b hc; exact ⟨c, rfl, b, hc, h⟩
      · cases h
    case move x => obtain ⟨ax, hx, h⟩ := map_some h; cases h
    case assign x => obtain ⟨ax, hx, h⟩ := map_some h; cases h
    case pick c x y => obtain ⟨ac, hc, h⟩ := bind_some h; obtain ⟨ax, hx, h⟩ := bind_some h; obtain ⟨ay, hy, h⟩ := bind_some h; cases h
    case binOp b t x y t' =>
      obtain ⟨ax, hx, h⟩ := bind_some h
      obtain ⟨ay, hy, h⟩ := bind_some h
      have hEq : ∀ neg op p q, cEq P t neg ax ay op = some (.append size bytes p q) → False := by
        intro neg op p q h
        unfold cEq at h
        obtain ⟨d, hd, h⟩ := bind_some h
        split at h <;> first | (cases h; done) | (split at h <;> cases h)
      cases b
      case eql => exact (hEq _ _ _ _ h).elim
      case neq => exact (hEq _ _ _ _ h).elim
      all_goals (cases h)
    case unOp u t x => obtain ⟨ax, hx, h⟩ := bind_some h; cases h
    case convert s d x =>
      obtain ⟨ds, hs, h⟩ := bind_some h
      obtain ⟨dd, hd, h⟩ := bind_some h
      split at h
      · obtain ⟨ax, hx, h⟩ := map_some h; cases h
      · cases h
    case load t x => obtain ⟨sz, hz, h⟩ := bind_some h; obtain ⟨ax, hx, h⟩ := bind_some h; cases h
    case store t x y => obtain ⟨n, hn, h⟩ := bind_some h; obtain ⟨ax, hx, h⟩ := bind_some h; obtain ⟨ay, hy, h⟩ := bind_some h; cases h
    case alloc t => obtain ⟨z, hz, h⟩ := map_some h; cases h
    case box t x => obtain ⟨ax, hx, h⟩ := map_some h; cases h
    case fieldAddr t x f =>
      obtain ⟨fd, hf, h⟩ := bind_some h
      obtain ⟨n, hn, h⟩ := bind_some h
      split at h
      · cases h
      · obtain ⟨ax, hx, h⟩ := bind_some h; cases h
    case field t x f => obtain ⟨fd, hf, h⟩ := bind_some h; obtain ⟨sz, hz, h⟩ := bind_some h; obtain ⟨ax, hx, h⟩ := bind_some h; cases h
    case indexAddr t x i =>
      obtain ⟨d, hd, h⟩ := bind_some h
      split at h
      · obtain ⟨n, hn, h⟩ := bind_some h; obtain ⟨ax, hx, h⟩ := bind_some h; obtain ⟨ai, hi, h⟩ := bind_some h; cases h
      · obtain ⟨n, hn, h⟩ := bind_some h; obtain ⟨ax, hx, h⟩ := bind_some h; obtain ⟨ai, hi, h⟩ := bind_some h; cases h
      · cases h
    case slice t x lo hi mx =>
      obtain ⟨e', he, h⟩ := bind_some h
      split at h
      · cases h
      · obtain ⟨n, hn, h⟩ := bind_some h
        obtain ⟨ax, hx, h⟩ := bind_some h
        obtain ⟨al, hl, h⟩ := bind_some h
        obtain ⟨ah, hh, h⟩ := bind_some h
        obtain ⟨am, hm, h⟩ := bind_some h
        cases h
    case build t parts =>
      obtain ⟨d, hd, h⟩ := bind_some h
      split at h
      · obtain ⟨z, hz, h⟩ := bind_some h
        obtain ⟨pl, hpl, h⟩ := bind_some h
        obtain ⟨ps, hps, h⟩ := bind_some h
        cases h
      · cases h
    case buildSlice t n parts =>
      obtain ⟨e', he, h⟩ := bind_some h
      obtain ⟨size, hz, h⟩ := bind_some h
      obtain ⟨ps, hps, h⟩ := bind_some h
      obtain ⟨z, hzz, h⟩ := bind_some h
      split at h <;> cases h
    case makeSlice t l c =>
      obtain ⟨e', he, h⟩ := bind_some h
      obtain ⟨i, hi, h⟩ := bind_some h
      obtain ⟨z, hz, h⟩ := bind_some h
      split at h
      · cases h
      · obtain ⟨al, hl, h⟩ := bind_some h
        obtain ⟨ac, hc, h⟩ := bind_some h
        cases h
    case makeFunc f first caps =>
      cases f
      case func f =>
        obtain ⟨as, has, h'⟩ := bind_some h
        clear h
        split at h' <;> cases h'
      all_goals (cases h)
    case extract x i => obtain ⟨ax, hx, h⟩ := bind_some h; cases h
    case nilCheck x => obtain ⟨ax, hx, h⟩ := map_some h; cases h
    case index t x i =>
      obtain ⟨d, hd, h⟩ := bind_some h
      split at h
      · obtain ⟨ax, hx, h⟩ := bind_some h; obtain ⟨ai, hi, h⟩ := bind_some h; cases h
      · cases h
    case makeMap t r =>
      obtain ⟨m, hm, h⟩ := bind_some h
      split at h <;> cases h
    case lookup t m i ok =>
      obtain ⟨⟨k, e', kd⟩, hm, h⟩ := bind_some h
      obtain ⟨z, hz, h⟩ := bind_some h
      obtain ⟨am, hx, h⟩ := bind_some h
      obtain ⟨ai, hi, h⟩ := bind_some h
      cases h
    case mapUpdate t m i x =>
      obtain ⟨⟨k, e', kd⟩, hm, h⟩ := bind_some h
      obtain ⟨am, hx, h⟩ := bind_some h
      obtain ⟨ai, hi, h⟩ := bind_some h
      obtain ⟨ax, hxx, h⟩ := bind_some h
      cases h
    all_goals (cases h)
  obtain ⟨c, ho, b, hc, h⟩ := key
  unfold cBuiltin at h
  split at h
  · obtain ⟨d, hd, h⟩ := bind_some h
    split at h
    · obtain ⟨ax, hx, h⟩ := map_some h; cases h
    · obtain ⟨ax, hx, h⟩ := map_some h; cases h
    · cases h
  · obtain ⟨e', he, h⟩ := bind_some h
    obtain ⟨n, hn, h⟩ := bind_some h
    obtain ⟨z, hz, h⟩ := bind_some h
    split at h
    · cases h
    · obtain ⟨ax, hx, h⟩ := bind_some h
      cases h
  · obtain ⟨ax, hx, h⟩ := bind_some h
    obtain ⟨ay, hy, h⟩ := bind_some h
    cases h
  · obtain ⟨ax, hx, h⟩ := bind_some h
    obtain ⟨ay, hy, h⟩ := bind_some h
    cases h
  · rename_i t u x y hty ha
    have ha' : c.args = #[x, y] := by apply Array.ext'; simpa using ha
    have hty' : c.argTypes = #[t, u] := by apply Array.ext'; simpa using hty
    split at h
    · cases h
    · rename_i htu
      have htu' : t = u := Decidable.not_not.mp htu
      subst htu'
      obtain ⟨e', he, h⟩ := bind_some h
      obtain ⟨i, hi, h⟩ := bind_some h
      obtain ⟨z, hz, h⟩ := bind_some h
      split at h
      · cases h
      · obtain ⟨ax, hx, h⟩ := bind_some h
        obtain ⟨ay, hy, h⟩ := bind_some h
        cases h
        exact ⟨⟨fun _ _ hk => hk.elim, sS_appendM ho hc ha' hty' (elemT_inv he) hi hz hx hy⟩, ⟨fun _ _ hk => hk.elim, sS_appendI ho hc ha' hty' (elemT_inv he) hi hz hx hy⟩⟩
  · obtain ⟨e', he, h⟩ := bind_some h
    obtain ⟨n, hn, h⟩ := bind_some h
    obtain ⟨ax, hx, h⟩ := bind_some h
    obtain ⟨ay, hy, h⟩ := bind_some h
    cases h
  · cases h

theorem getD_snd {P : Program} {o : Oper} (g : Cfg) : Snd P o (asM g o.dst ((cOp P o.op).getD .bad)) := by
  cases h : cOp P o.op with
  | none => exact ⟨fun _ _ hk => hk.elim, fun _ _ hk => hk.elim⟩
  | some op =>
    show Snd P o (asM g o.dst op)
    unfold asM
    split
    · rename_i size bytes ax ay
      split
      · exact (cApp_snd h).1
      · split
        · exact (cApp_snd h).2
        · exact cOp_snd h
    · rename_i x
      split
      · exact ⟨sF_boxF (cOp_snd h).2, fun _ _ hk => hk.elim⟩
      · exact cOp_snd h
    · rename_i sz x
      split
      · exact ⟨sF_loadF (cOp_snd h).1, fun _ _ hk => hk.elim⟩
      · exact cOp_snd h
    · exact cOp_snd h

/-- A store that fills a new block, which is fixed from then on. -/
theorem storeF_wp {P : Program} {o : Oper} {d n : Nat} {x : Arg} (hc : cOp P o.op = some (.store n (.t d) x)) (hod : o.dst = none) {N : Nat} {s : Sg} {e : Env} {h : AH} {w0 : World} {own : Nat → Prop} {a : Act} {w : World} (hs : ASim N s e h w0 own a w)
    (_hdN : d < N) {K : AV → AH → Prop} (hk : evS P (.storeF n (.t d) x) e h K) (next : Act → World → Prop) (Q : Exit → Act → World → Prop)
    (hn : ∀ (s' : Sg) (y : AV) (h' : AH) (a' : Act) (w' : World), s.le s' → ASim N s' (e.put (some d) y) h' w0 own a' w' → K y h' → next a' w') : o.wp P a w next Q := by
  have hk : (match e.get d with
    | .ptr b 0 => ∃ cs, h.blk b = some cs ∧ cs.length = n ∧ (x.ev e).cells.length = n ∧ allOne (x.ev e).cells = true ∧ K (.sptr (x.ev e).cells) (h.del b)
    | _ => False) := hk
  split at hk
  · rename_i b hb
    obtain ⟨cs, hcs, l1, l2, h1, hk⟩ := hk
    have hfull : spl cs 0 (x.ev e).cells = (x.ev e).cells := spl_full (x.ev e).cells cs [] (by omega)
    refine (cOp_snd hc).2 hs (K := fun v h' => h' = h.put b (x.ev e).cells) ?_ next Q ?_
    · simp only [evS]
      rw [show (Arg.t d).ev e = .ptr b 0 from hb]
      exact ⟨cs, hcs, l2, h1, by omega, by rw [hfull]⟩
    rintro s' u v h' w' m1 m2 m3 rfl
    obtain ⟨s'', c, vs, k1, k2, k3, k4, k5⟩ := m2.fix (b := b) (cs := (x.ev e).cells) (by simp [AH.put])
    have hh : (h.put b (x.ev e).cells).del b = h.del b := by
      simp only [AH.put, AH.del]
      congr 1
      funext y
      split <;> rfl
    rw [hh] at k2
    rw [hod]
    refine hn s'' _ _ _ w' (m1.trans k1) ⟨k2, hs.defers, hs.size, fun t => ?_⟩ hk
    show VRel s'' (Env.get ((d, _) :: e) t) _
    rw [Env.get_cons]
    split
    · rename_i hdt
      subst hdt
      have r := hs.rel d
      rw [hb] at r
      obtain ⟨c', ev, hc'⟩ := r.ptr_inv
      have := m1.blk b c' hc'
      rw [k3] at this
      cases this
      show VRel s'' _ (a.tmps.getD d undef)
      rw [ev]
      exact .sptr _ _ vs k4.1 k4.2 rfl (fun j v hv => by rw [Nat.zero_add]; exact k5 j v hv)
    · exact (hs.rel t).mono (m1.trans k1)
  · exact hk.elim

/-- What a compiled operation says, it does. -/
theorem evOp_wp {P : Program} {o : Oper} {g : Cfg} {io : IOp} (hio : io.op = asM g o.dst ((cOp P o.op).getD .bad)) {N : Nat} {s : Sg} {e : Env} {h : AH} {w0 : World} {own : Nat → Prop} {a : Act} {w : World} (hs : ASim N s e h w0 own a w)
    {K : AV → AH → Prop} (hk : evOp P io e h K) (next : Act → World → Prop) (Q : Exit → Act → World → Prop)
    (hn : ∀ (s' : Sg) (x : AV) (v : Value) (h' : AH) (w' : World), s.le s' → HSim s' h' w0 own w' → VRel s' x v → K x h' → next (a.put o.dst v) w') : o.wp P a w next Q := by
  have hsnd := getD_snd (P := P) (o := o) g
  rw [← hio] at hsnd
  unfold evOp at hk
  split at hk
  · exact hsnd.1 hs hk next Q (fun s' x v w' h1 h2 h3 h4 => hn s' x v h w' h1 h2 h3 h4)
  · exact hsnd.2 hs hk next Q hn
end Go.Abs
