/- Soundness of a compiled operation. No condition. -/
import Derived.Test.YticiimmfjdkimaaA12
namespace Go.Abs
open Go

theorem map_some {α β : Type} {x : Option α} {f : α → β} {b : β} (h : x.map f = some b) : ∃ a, x = some a ∧ f a = b := by
  cases x with
  | none => cases h
  | some a => exact ⟨a, rfl, by cases h; rfl⟩

def Snd (P : Program) (o : Oper) (op : AOp) : Prop := FSound P o op ∧ SSound P o op

theorem cEq_snd {P : Program} {o : Oper} {t t' : TypeId} {x y : Operand} {ax ay : Arg} {neg : Bool} {op : AOp} (ho : o.op = .binOp (if neg then .neq else .eql) t x y t') (hx : cArg x = some ax) (hy : cArg y = some ay)
    (h : cEq P t neg ax ay (if neg then .neq else .eql) = some op) : Snd P o op := by
  unfold cEq at h
  obtain ⟨d, hd, h⟩ := bind_some h
  split at h
  · cases h; exact ⟨sF_bin ho hx hy, fun _ _ hk => hk.elim⟩
  · cases h; exact ⟨sF_bin ho hx hy, fun _ _ hk => hk.elim⟩
  · cases h; exact ⟨sF_eq_bool ho hd hx hy, fun _ _ hk => hk.elim⟩
  · cases h; exact ⟨sF_eq_slice ho hd hx hy, fun _ _ hk => hk.elim⟩
  · cases h; exact ⟨sF_eq_func ho hd hx hy, fun _ _ hk => hk.elim⟩
  · cases h; exact ⟨sF_eq_ptr ho hd hx hy, fun _ _ hk => hk.elim⟩
  · split at h
    · rename_i hc
      simp only [Bool.and_eq_true, Bool.not_eq_true'] at hc
      cases h
      exact ⟨sF_eq_ints ho hd hc.1.1 hc.1.2 hc.2 hx hy, fun _ _ hk => hk.elim⟩
    · cases h
  · cases h

theorem cBuiltin_snd {P : Program} {o : Oper} {c : Call} {b : Builtin} {op : AOp} (ho : o.op = .call c) (hc : c.callee = .builtin b) (h : cBuiltin P b c.argTypes c.args.toList = some op) : Snd P o op := by
  unfold cBuiltin at h
  split at h
  · rename_i t x hty ha
    have ha' : c.args = #[x] := by apply Array.ext'; simpa using ha
    have hty' : c.argTypes = #[t] := by apply Array.ext'; simpa using hty
    obtain ⟨d, hd, h⟩ := bind_some h
    split at h
    · obtain ⟨ax, hx, rfl⟩ := map_some h
      exact ⟨sF_len ho hc ha' hty' hd hx, fun _ _ hk => hk.elim⟩
    · cases h
  · rename_i x y ha
    have ha' : c.args = #[x, y] := by apply Array.ext'; simpa using ha
    obtain ⟨ax, hx, h⟩ := bind_some h
    obtain ⟨ay, hy, h⟩ := bind_some h
    cases h
    exact ⟨sF_max ho hc ha' hx hy, fun _ _ hk => hk.elim⟩
  · rename_i x y ha
    have ha' : c.args = #[x, y] := by apply Array.ext'; simpa using ha
    obtain ⟨ax, hx, h⟩ := bind_some h
    obtain ⟨ay, hy, h⟩ := bind_some h
    cases h
    exact ⟨sF_min ho hc ha' hx hy, fun _ _ hk => hk.elim⟩
  · rename_i t u x y hty ha
    have ha' : c.args = #[x, y] := by apply Array.ext'; simpa using ha
    have hty' : c.argTypes = #[t, u] := by apply Array.ext'; simpa using hty
    split at h
    · cases h
    · rename_i htu
      have htu' : t = u := Decidable.not_not.mp htu
      subst htu'
      obtain ⟨e', he, h⟩ := bind_some h
      obtain ⟨i, hi, h⟩ := bind_some h
      obtain ⟨z, hz, h⟩ := bind_some h
      split at h
      · cases h
      · obtain ⟨ax, hx, h⟩ := bind_some h
        obtain ⟨ay, hy, h⟩ := bind_some h
        cases h
        exact ⟨sF_append ho hc ha' hty' (elemT_inv he) hi hz hx hy, sS_append ho hc ha' hty' (elemT_inv he) hi hz hx hy⟩
  · rename_i t u x y hty ha
    have ha' : c.args = #[x, y] := by apply Array.ext'; simpa using ha
    have hty' : c.argTypes = #[t, u] := by apply Array.ext'; simpa using hty
    obtain ⟨e', he, h⟩ := bind_some h
    obtain ⟨n, hn, h⟩ := bind_some h
    obtain ⟨ax, hx, h⟩ := bind_some h
    obtain ⟨ay, hy, h⟩ := bind_some h
    cases h
    exact ⟨fun _ _ hk => hk.elim, sS_copy ho hc ha' hty' (elemT_inv he) hn hx hy⟩
  · cases h

theorem cOp_snd {P : Program} {o : Oper} {op : AOp} (h : cOp P o.op = some op) : Snd P o op := by
  generalize ho : o.op = p at h
  cases p
  case move x => obtain ⟨ax, hx, rfl⟩ := map_some h; exact ⟨sF_mv (.inl ho) hx, fun _ _ hk => hk.elim⟩
  case assign x => obtain ⟨ax, hx, rfl⟩ := map_some h; exact ⟨sF_mv (.inr ho) hx, fun _ _ hk => hk.elim⟩
  case pick c x y =>
    obtain ⟨ac, hc, h⟩ := bind_some h
    obtain ⟨ax, hx, h⟩ := bind_some h
    obtain ⟨ay, hy, h⟩ := bind_some h
    cases h
    exact ⟨sF_pick ho hc hx hy, fun _ _ hk => hk.elim⟩
  case binOp b t x y t' =>
    obtain ⟨ax, hx, h⟩ := bind_some h
    obtain ⟨ay, hy, h⟩ := bind_some h
    cases b
    case eql => exact cEq_snd (neg := false) ho hx hy h
    case neq => exact cEq_snd (neg := true) ho hx hy h
    all_goals (cases h; exact ⟨sF_bin ho hx hy, fun _ _ hk => hk.elim⟩)
  case unOp u t x =>
    obtain ⟨ax, hx, h⟩ := bind_some h
    cases h
    exact ⟨sF_un ho hx, fun _ _ hk => hk.elim⟩
  case convert s d x =>
    obtain ⟨ds, hs, h⟩ := bind_some h
    obtain ⟨dd, hd, h⟩ := bind_some h
    split at h
    · obtain ⟨ax, hx, rfl⟩ := map_some h
      exact ⟨sF_conv ho hs hd hx, fun _ _ hk => hk.elim⟩
    · cases h
  case load t x =>
    obtain ⟨sz, hz, h⟩ := bind_some h
    obtain ⟨ax, hx, h⟩ := bind_some h
    cases h
    exact ⟨sF_load ho hz hx, fun _ _ hk => hk.elim⟩
  case store t x y =>
    obtain ⟨n, hn, h⟩ := bind_some h
    obtain ⟨ax, hx, h⟩ := bind_some h
    obtain ⟨ay, hy, h⟩ := bind_some h
    cases h
    exact ⟨fun _ _ hk => hk.elim, sS_store ho hn hx hy⟩
  case alloc t => obtain ⟨z, hz, rfl⟩ := map_some h; exact ⟨fun _ _ hk => hk.elim, sS_alloc ho hz⟩
  case box t x => obtain ⟨ax, hx, rfl⟩ := map_some h; exact ⟨fun _ _ hk => hk.elim, sS_box ho hx⟩
  case fieldAddr t x f =>
    obtain ⟨fd, hf, h⟩ := bind_some h
    obtain ⟨n, hn, h⟩ := bind_some h
    split at h
    · cases h
    · rename_i h0
      obtain ⟨ax, hx, h⟩ := bind_some h
      cases h
      exact ⟨sF_fieldAddr ho hf hn h0 hx, fun _ _ hk => hk.elim⟩
  case field t x f =>
    obtain ⟨fd, hf, h⟩ := bind_some h
    obtain ⟨sz, hz, h⟩ := bind_some h
    obtain ⟨ax, hx, h⟩ := bind_some h
    cases h
    exact ⟨sF_field ho hf hz hx, fun _ _ hk => hk.elim⟩
  case indexAddr t x i =>
    obtain ⟨d, hd, h⟩ := bind_some h
    split at h
    · obtain ⟨n, hn, h⟩ := bind_some h
      obtain ⟨ax, hx, h⟩ := bind_some h
      obtain ⟨ai, hi, h⟩ := bind_some h
      cases h
      exact ⟨sF_indexAddr ho hd hn hx hi, fun _ _ hk => hk.elim⟩
    · obtain ⟨n, hn, h⟩ := bind_some h
      obtain ⟨ax, hx, h⟩ := bind_some h
      obtain ⟨ai, hi, h⟩ := bind_some h
      cases h
      exact ⟨sF_indexArr ho hd hn hx hi, fun _ _ hk => hk.elim⟩
    · cases h
  case slice t x lo hi mx =>
    obtain ⟨e', he, h⟩ := bind_some h
    split at h
    · cases h
    · rename_i hmh
      obtain ⟨n, hn, h⟩ := bind_some h
      obtain ⟨ax, hx, h⟩ := bind_some h
      obtain ⟨al, hl, h⟩ := bind_some h
      obtain ⟨ah, hh, h⟩ := bind_some h
      obtain ⟨am, hm, h⟩ := bind_some h
      cases h
      exact ⟨sF_slice ho (elemT_inv he) hn hx hl hh hm (by cases hq : (mx.isSome && hi.isNone) with | false => rfl | true => exact absurd hq hmh), fun _ _ hk => hk.elim⟩
  case build t parts =>
    obtain ⟨d, hd, h⟩ := bind_some h
    split at h
    · obtain ⟨z, hz, h⟩ := bind_some h
      obtain ⟨pl, hpl, h⟩ := bind_some h
      obtain ⟨ps, hps, h⟩ := bind_some h
      cases h
      exact ⟨sF_build ho hd hz hpl hps, fun _ _ hk => hk.elim⟩
    · cases h
  case buildSlice t n parts =>
    obtain ⟨e', he, h⟩ := bind_some h
    obtain ⟨size, hz, h⟩ := bind_some h
    obtain ⟨ps, hps, h⟩ := bind_some h
    obtain ⟨z, hzz, h⟩ := bind_some h
    split at h
    · cases h
    · rename_i h0
      cases h
      exact ⟨sF_buildSlice ho (elemT_inv he) hz (fun hb => h0 (.inl hb)) hzz (fun hb => h0 (.inr hb)) hps, fun _ _ hk => hk.elim⟩
  case makeSlice t l c =>
    obtain ⟨e', he, h⟩ := bind_some h
    obtain ⟨i, hi, h⟩ := bind_some h
    obtain ⟨z, hz, h⟩ := bind_some h
    split at h
    · cases h
    · rename_i h0
      obtain ⟨al, hl, h⟩ := bind_some h
      obtain ⟨ac, hc, h⟩ := bind_some h
      cases h
      exact ⟨fun _ _ hk => hk.elim, sS_makeSlice ho (elemT_inv he) hi hz h0 hl hc⟩
  case makeFunc f first caps =>
    cases f
    case func f =>
      obtain ⟨as, has, h'⟩ := bind_some h
      clear h
      split at h'
      · rename_i hf
        have hf' : first = #[] := by apply Array.ext'; simpa using hf
        subst hf'
        cases h'
        exact ⟨sF_makeFunc ho has, fun _ _ hk => hk.elim⟩
      · cases h'
    all_goals (cases h)
  case extract x i =>
    obtain ⟨ax, hx, h⟩ := bind_some h
    cases h
    exact ⟨sF_extract ho hx, fun _ _ hk => hk.elim⟩
  case nilCheck x => obtain ⟨ax, hx, rfl⟩ := map_some h; exact ⟨sF_nilCheck ho hx, fun _ _ hk => hk.elim⟩
  case call c =>
    simp only [cOp] at h
    split at h
    · rename_i f hc
      obtain ⟨as, has, h⟩ := bind_some h
      cases h
      exact ⟨sF_call ho hc has, sS_call ho hc has⟩
    · rename_i t hc
      obtain ⟨as, has, h⟩ := bind_some h
      cases h
      exact ⟨sF_callv ho hc has, sS_callv ho hc has⟩
    · rename_i b hc
      exact cBuiltin_snd ho hc h
    · cases h
  all_goals (cases h)

theorem getD_snd {P : Program} {o : Oper} : Snd P o ((cOp P o.op).getD .bad) := by
  cases h : cOp P o.op with
  | none => exact ⟨fun _ _ hk => hk.elim, fun _ _ hk => hk.elim⟩
  | some op => exact cOp_snd h

/-- What a compiled operation says, it does. -/
theorem evOp_wp {P : Program} {o : Oper} {io : IOp} (hio : io.op = (cOp P o.op).getD .bad) {N : Nat} {s : Sg} {e : Env} {h : AH} {w0 : World} {own : Nat → Prop} {a : Act} {w : World} (hs : ASim N s e h w0 own a w)
    {K : AV → AH → Prop} (hk : evOp P io e h K) (next : Act → World → Prop) (Q : Exit → Act → World → Prop)
    (hn : ∀ (s' : Sg) (x : AV) (v : Value) (h' : AH) (w' : World), s.le s' → HSim s' h' w0 own w' → VRel s' x v → K x h' → next (a.put o.dst v) w') : o.wp P a w next Q := by
  have hsnd := getD_snd (P := P) (o := o)
  rw [← hio] at hsnd
  unfold evOp at hk
  split at hk
  · exact hsnd.1 hs hk next Q (fun s' x v w' h1 h2 h3 h4 => hn s' x v h w' h1 h2 h3 h4)
  · exact hsnd.2 hs hk next Q hn
end Go.Abs
