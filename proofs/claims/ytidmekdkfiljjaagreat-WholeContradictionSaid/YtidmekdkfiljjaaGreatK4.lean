/- Soundness of the operations that turn nothing. No condition. -/
import Derived.Test.YtidmekdkfiljjaaGreatK3
namespace Go.Abs
open Go

theorem wrap_in {k : IntKind} {n : Int} (h : InR k n) : k.wrap n = n := by
  obtain ⟨h1, h2⟩ := h
  cases k <;> simp [IntKind.min, IntKind.max, IntKind.signed, IntKind.bits, IntKind.wrap] at * <;> (try split) <;> omega
theorem wrap_inR (k : IntKind) (n : Int) : InR k (k.wrap n) := by
  cases k <;> simp [InR, IntKind.min, IntKind.max, IntKind.signed, IntKind.bits, IntKind.wrap] <;> (try split) <;> omega

def FSound (P : Program) (o : Oper) (op : AOp) : Prop :=
  ∀ {N : Nat} {s : Sg} {e : Env} {h : AH} {w0 : World} {own : Nat → Prop} {a : Act} {w : World}, ASim N s e h w0 own a w →
    ∀ {K : AV → Prop}, evF P op e h K → ∀ (next : Act → World → Prop) (Q : Exit → Act → World → Prop),
      (∀ (s' : Sg) (x : AV) (v : Value) (w' : World), s.le s' → HSim s' h w0 own w' → VRel s' x v → K x → next (a.put o.dst v) w') → o.wp P a w next Q

/-- An operation whose run is a value in the same world. -/
theorem wp_pure {P : Program} {o : Oper} {a : Act} {w : World} {v : Value} (hr : (execOp a.eval o).run P w = .ok (.value v) w)
    {next : Act → World → Prop} {Q : Exit → Act → World → Prop} (h : next (a.put o.dst v) w) : o.wp P a w next Q := by
  unfold Oper.wp; rw [hr]; exact h

theorem sF_mv {P : Program} {o : Oper} {x : Operand} {ax : Arg} (ho : o.op = .move x ∨ o.op = .assign x) (hx : cArg x = some ax) : FSound P o (.mv ax) := by
  intro N s e h w0 own a w hs K hk next Q hn
  refine wp_pure (v := a.eval x) (by rcases ho with ho | ho <;> simp [execOp, ho]) (hn s _ _ w (Sg.le.refl s) hs.heap (cArg_rel hs hx) hk)

theorem sF_pick {P : Program} {o : Oper} {c x y : Operand} {ac ax ay : Arg} (ho : o.op = .pick c x y) (hc : cArg c = some ac) (hx : cArg x = some ax) (hy : cArg y = some ay) :
    FSound P o (.pick ac ax ay) := by
  intro N s e h w0 own a w hs K hk next Q hn
  have rc := cArg_rel hs hc
  simp only [evF] at hk
  split at hk
  · rename_i t hct
    rw [hct] at rc
    have ec := rc.bool_inv
    cases t
    · exact wp_pure (v := a.eval y) (by simp [execOp, ho, ec, asBool]) (hn s _ _ w (Sg.le.refl s) hs.heap (cArg_rel hs hy) (hk.2 rfl))
    · exact wp_pure (v := a.eval x) (by simp [execOp, ho, ec, asBool]) (hn s _ _ w (Sg.le.refl s) hs.heap (cArg_rel hs hx) (hk.1 rfl))
  · exact hk.elim

theorem run_int_ops {P : Program} (w : World) (op : BinOp) (t : TypeId) (x y : Operand) (k k' : IntKind) (a b : Int) (K : AV → Prop) (h : evInt op k k' a b K) (ha : InR k a) (s : Sg) :
    ∃ v z, ((do eqGuard op t x y (.int k a) (.int k' b); binOp op t (.int k a) (.int k' b)) : Sem Value).run P w = .ok v w ∧ VRel s z v ∧ K z := by
  have hg : ∀ op, eqGuard op t x y (.int k a) (.int k' b) = pure () := fun op => eqGuard_at_int ..
  cases op
  case shl =>
    obtain ⟨h0, h1⟩ := h
    refine ⟨_, _, ?_, .int k _ (wrap_inR k _), h1⟩
    simp [hg, binOp, Op.shift, show ¬ b < 0 by omega]
  case shr =>
    obtain ⟨h0, h1⟩ := h
    refine ⟨_, _, ?_, .int k _ ?_, h1⟩
    · simp [hg, binOp, Op.shift, show ¬ b < 0 by omega]
    · have hp : (0 : Int) < 2 ^ (Nat.min b.toNat k.bits) := Int.pow_pos (by decide)
      have hd := Int.fdiv_eq_ediv_of_nonneg a (Int.le_of_lt hp)
      rw [hd]
      have hp1 : (1 : Int) ≤ 2 ^ (Nat.min b.toNat k.bits) := hp
      generalize (2 : Int) ^ (Nat.min b.toNat k.bits) = q at *
      obtain ⟨h1, h2⟩ := ha
      rcases Int.lt_or_le a 0 with hn | hn
      · have l1 : a ≤ a / q := by
          have := Int.mul_ediv_add_emod a q
          have m0 := Int.emod_nonneg a (Int.ne_of_gt hp)
          rcases Int.lt_or_le (a / q) a with hlt | hle
          · exfalso
            have hq : q * (a / q) ≤ a := by omega
            have : a < q * (a / q) + q := by have := Int.emod_lt_of_pos a hp; omega
            have hneg : a / q < 0 := by omega
            have h3 : q * (a / q) ≤ 1 * (a / q) := Int.mul_le_mul_of_nonpos_right hp1 (by omega)
            have h4 : q * (a / q) + q ≤ a := by
              have : q * (a / q) + q = q * (a / q + 1) := by rw [Int.mul_add, Int.mul_one]
              rw [this]
              have h5 : q * (a / q + 1) ≤ 1 * (a / q + 1) := Int.mul_le_mul_of_nonpos_right hp1 (by omega)
              omega
            omega
          · exact hle
        have l2 : a / q ≤ 0 := Int.ediv_nonpos_of_nonpos_of_neg (by omega) (by omega)
        refine ⟨by omega, Int.le_trans l2 ?_⟩
        cases k <;> simp [IntKind.max, IntKind.signed, IntKind.bits]
      · have l1 : a / q ≤ a := Int.ediv_le_self q hn
        have l2 : 0 ≤ a / q := Int.ediv_nonneg hn (by omega)
        refine ⟨Int.le_trans ?_ l2, by omega⟩
        cases k <;> simp [IntKind.min, IntKind.signed, IntKind.bits]
  all_goals
    simp only [evInt] at h
    obtain ⟨rfl, h⟩ := h
  case add =>
    exact ⟨_, _, by simp [hg, binOp, Op.intArith]; rfl, by rw [wrap_in h.1]; exact .int k _ h.1, h.2⟩
  case sub => exact ⟨_, _, by simp [hg, binOp, Op.intArith]; rfl, by rw [wrap_in h.1]; exact .int k _ h.1, h.2⟩
  case mul => exact ⟨_, _, by simp [hg, binOp, Op.intArith]; rfl, by rw [wrap_in h.1]; exact .int k _ h.1, h.2⟩
  case quo => exact ⟨_, _, by simp [hg, binOp, Op.intDiv, h.1]; rfl, by rw [wrap_in h.2.1]; exact .int k _ h.2.1, h.2.2⟩
  case rem =>
    refine ⟨.int k (a.tmod b), _, by simp [hg, binOp, Op.intDiv, h.1], .int k _ ?_, h.2⟩
    have hle : (a.tmod b).natAbs ≤ a.natAbs := by rw [Int.natAbs_tmod]; exact Nat.mod_le _ _
    obtain ⟨h1, h2⟩ := ha
    rcases Int.lt_or_le a 0 with hn | hn
    · have m1 : 0 ≤ (-a).tmod b := Int.tmod_nonneg b (by omega)
      rw [Int.neg_tmod] at m1
      refine ⟨by omega, Int.le_trans (show a.tmod b ≤ 0 by omega) ?_⟩
      cases k <;> simp [IntKind.max, IntKind.signed, IntKind.bits]
    · have m1 : 0 ≤ a.tmod b := Int.tmod_nonneg b hn
      refine ⟨Int.le_trans ?_ m1, by omega⟩
      cases k <;> simp [IntKind.min, IntKind.signed, IntKind.bits]
  case and => exact ⟨_, _, by simp [hg, binOp, Op.intBits], .int k _ (wrap_inR k _), h⟩
  case or => exact ⟨_, _, by simp [hg, binOp, Op.intBits], .int k _ (wrap_inR k _), h⟩
  case xor => exact ⟨_, _, by simp [hg, binOp, Op.intBits], .int k _ (wrap_inR k _), h⟩
  case andNot => exact ⟨_, _, by simp [hg, binOp, Op.intBits], .int k _ (wrap_inR k _), h⟩
  case eql => exact ⟨.bool (a == b), _, by simp [hg, binOp, Op.intCmp], by rw [show (a == b) = decide (a = b) from rfl]; exact .bool _, h⟩
  case neq => exact ⟨.bool (a != b), _, by simp [hg, binOp, Op.intCmp], by rw [show (a != b) = !decide (a = b) from rfl]; exact .bool _, h⟩
  case lss => exact ⟨.bool (decide (a < b)), _, by simp [hg, binOp, Op.intCmp], .bool _, h⟩
  case leq => exact ⟨.bool (decide (a ≤ b)), _, by simp [hg, binOp, Op.intCmp], .bool _, h⟩
  case gtr => exact ⟨.bool (decide (b < a)), _, by simp [hg, binOp, Op.intCmp], .bool _, h⟩
  case geq => exact ⟨.bool (decide (b ≤ a)), _, by simp [hg, binOp, Op.intCmp], .bool _, h⟩
end Go.Abs
