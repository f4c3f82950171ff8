/- What the values of arguments tell, and calls out of what is to be shown. No condition. -/
import Derived.Test.YtidmekdkfiljjaaGreatK20
namespace Go.Abs
open Go

def AV.wf0 : AV → Prop
  | .int k n => InR k n
  | .sl _ n _ _ => n ≤ 9223372036854775807
  | .msl _ _ n _ => n ≤ 9223372036854775807
  | _ => True
def AV.subs : AV → List AV
  | .sl _ _ cs _ => cs
  | .st cs => cs
  | .sptr cs => cs
  | .fn _ cs => cs
  | .tup cs => cs
  | _ => []
def AV.wfn : Nat → AV → Prop
  | 0, x => x.wf0
  | n + 1, x => x.wf0 ∧ ∀ y ∈ x.subs, AV.wfn n y

theorem VRel.wf0 {s : Sg} {x : AV} {v : Value} (h : VRel s x v) : x.wf0 := by
  cases h with
  | int k n h => exact h
  | sl nl n cells tl a cap vs hlen hrel hfx hnil hnone hspot hcap hmax htl => exact Nat.le_trans hcap hmax
  | msl b off n cap c k h hcap hmax hk => exact Nat.le_trans hcap hmax
  | _ => trivial
theorem VRel.subs {s : Sg} {x : AV} {v : Value} (h : VRel s x v) : ∃ vs, VRels s x.subs vs := by
  cases h with
  | sl nl n cells tl a cap vs hlen hrel hfx hnil hnone hspot hcap hmax htl => exact ⟨vs, hlen, hrel⟩
  | st cells vs hlen hrel => exact ⟨vs, hlen, hrel⟩
  | sptr cells ad vs hlen hrel hspot hfx => exact ⟨vs, hlen, hrel⟩
  | fn f caps vs hlen hrel => exact ⟨vs, hlen, hrel⟩
  | tup ws vs hlen hrel => exact ⟨vs, hlen, hrel⟩
  | _ => exact ⟨[], .nil s⟩
theorem VRel.wfn {s : Sg} : ∀ (n : Nat) {x : AV} {v : Value}, VRel s x v → x.wfn n := by
  intro n
  induction n with
  | zero => intro x v h; exact h.wf0
  | succ n ih =>
    intro x v h
    obtain ⟨vs, hvs⟩ := h.subs
    refine ⟨h.wf0, fun y hy => ?_⟩
    obtain ⟨j, hj, rfl⟩ := List.getElem_of_mem hy
    obtain ⟨u, _, hu⟩ := hvs.at_ (List.getElem?_eq_getElem hj)
    exact ih hu
theorem VRels.wfn {s : Sg} {xs : List AV} {vs : List Value} (h : VRels s xs vs) (n : Nat) : ∀ x ∈ xs, x.wfn n := by
  intro x hx
  obtain ⟨j, hj, rfl⟩ := List.getElem_of_mem hx
  obtain ⟨u, _, hu⟩ := h.at_ (List.getElem?_eq_getElem hj)
  exact hu.wfn n

theorem cFn_ok {P : Program} {f : FuncId} {g : Cfg} {F : CFn} (hc : cFn P f g = some F) : callOK P f = true := by
  unfold cFn at hc
  obtain ⟨fn, hf, hc⟩ := bind_some hc
  split at hc
  · rename_i hok
    simp only [Bool.and_eq_true] at hok
    exact hok.1
  · cases hc

theorem ACalls.of {P : Program} (hm : P.follows .mixedOrders = true) {f : FuncId} {g : Cfg} {F : CFn} (hc : cFn P f g = some F) {args : List AV} (hn : args.length ≤ g.N) {h : AH} {R : AV → AH → Prop}
    (hb : (∀ x ∈ args, x.wfn 2) → VG P g F.body (entry args 0) h (q := ⟨retQ F.res R⟩)) : ACalls P f args h R :=
  .know (p := ∀ x ∈ args, x.wfn 2) (fun _ _ hv => hv.wfn 2) (fun hw => .of_awp hc hn (.of_vc hm (hb hw))) (cFn_ok hc)

theorem RCall.of {P : Program} (hm : P.follows .mixedOrders = true) {f : FuncId} {g : Cfg} {F : CFn} (hc : cFn P f g = some F) {args : List AV} (hn : args.length ≤ g.N) {h : AH} {v : AV}
    (hb : (∀ x ∈ args, x.wfn 2) → ∀ h', AH.leB h h' → VG P g F.body (entry args 0) h' (q := ⟨retQ F.res fun r h'' => r = v ∧ h'' = h'⟩)) : RCall P f args h v :=
  fun h' hl => .of hm hc hn fun hw => hb hw h' hl

theorem ret_ok {r v : AV} {h : AH} (hr : r = v) : ∃ r' h', RGh r h r' h' ∧ r' = v ∧ h' = h := ⟨r, h, .refl r h, hr, rfl⟩
end Go.Abs
