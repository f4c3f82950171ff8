/- Calls of functions of this seat's program: package poset. No condition. -/
import Derived.Test.YtidmekdkfiljjaaGreatK22
import Derived.Test.YtidmekdkfiljjaaGreatK24
import Derived.Test.YtidmekdkfiljjaaGreatK25
import Derived.Test.YtidmekdkfiljjaaGreatK28
namespace Go.Proofs.YtidmekdkfiljjaaGreat.P
open Go Go.Abs
set_option linter.unusedSimpArgs false
set_option linter.unusedVariables false
set_option maxRecDepth 20000

theorem r_poset_has {m i : Nat} (hm' : m < 4294967296) (hi : i < 32) (h : AH) : RCall Tryz.prog n_poset_set_has [.int .u32 m, I i] h (.bool (m.testBit i)) := by
  refine RCall.of hm cF_poset_set_has (by simp [g_poset_set_has]) fun hw h' hl => ?_
  have h1 := bitu32_at hm' (Nat.le_of_lt hi)
  simp only [h1, F_poset_set_has, g_poset_set_has, go_sem, ↓tq_n, ↓tq_e, ↓tq_r, ↓bq_n, ↓bq_e, ↓bq_r, ↓rq_n, ↓rq_r, ↓rq_e]
  exact ret_ok (by cases m.testBit i <;> simp)

end Go.Proofs.YtidmekdkfiljjaaGreat.P
namespace Go.Proofs.YtidmekdkfiljjaaGreat.P
open Go Go.Abs
set_option linter.unusedSimpArgs false
set_option linter.unusedVariables false
set_option maxRecDepth 20000

theorem s_poset_next (n : Nat) (hn : n ≤ 24) (nl : Bool) (a : List (Int × Int)) (tl : Tail) (ha : ∀ i, i < a.length → Arc n (a.getD i (0, 0))) (hal : a.length ≤ 100000) (h : AH) :
    ACalls Tryz.prog n_poset_next [I n, .sl nl a.length (prs a) tl] h (fun r h'' => ∃ b, h.blk b = none ∧ r = .msl b 0 n (some n) ∧ h'' = h.put b (u32s (nxt n a a.length))) := by
  refine ACalls.of hm cF_poset_next (by simp [g_poset_next]) fun hw => ?_
  simp only [F_poset_next, g_poset_next, go_sem, ↓tq_n, ↓tq_e, ↓tq_r, ↓bq_n, ↓bq_e, ↓bq_r, ↓rq_n, ↓rq_r, ↓rq_e]
  refine MakeG.mk (by omega) (Int.le_refl _) (by omega) (by omega) fun b hb => ?_
  rw [flat_rep]
  simp only [F_poset_next, g_poset_next, go_sem, ↓tq_n, ↓tq_e, ↓tq_r, ↓bq_n, ↓bq_e, ↓bq_r, ↓rq_n, ↓rq_r, ↓rq_e]
  refine awp_loop (fun i : Nat => [(1, .sl nl a.length (prs a) tl), (5, .msl b 0 n (some n)), (10, .sl nl a.length (prs a) tl), (11, I a.length), (12, I i)]) (fun i => h.put b (u32s (nxt n a i))) (fun i => i ≤ a.length) (fun i => a.length - i) 0 (Nat.zero_le _) (by simp only [nxt, u32s, List.map_replicate]; exact (GStep.forget (by repeat' first | exact EnvLe.nil _ | refine EnvLe.cons (AV.le.of_eq rfl) ?_ | refine EnvLe.cons (AV.le.undef _) ?_ | refine EnvLe.cons AV.le.unk ?_) (by repeat' first | exact AH.le.refl _ | assumption | (refine AH.le_put ?_ (by first | assumption | exact (AH.blk_put_ne _ _ (by assumption)).trans (by assumption) | exact AH.none_put (by assumption) | exact AH.none_put (AH.none_put (by assumption)) | (simp only [AH.blk_setTok, AH.tok_put] at *; first | assumption | exact AH.none_put (by assumption)))) | (refine AH.le_setTok ?_ (by first | assumption | exact (AH.blk_put_ne _ _ (by assumption)).trans (by assumption) | exact AH.none_put (by assumption) | exact AH.none_put (AH.none_put (by assumption)) | (simp only [AH.blk_setTok, AH.tok_put] at *; first | assumption | exact AH.none_put (by assumption)))) | (refine AH.le_putM ?_ (by first | assumption | exact (AH.mp_putM_ne _ _ (by assumption)).trans (by assumption) | (simp only [AH.mp_put, AH.mp_setTok] at *; assumption)))))) fun i hi => .of_vg hm ?_
  by_cases h5 : i < a.length
  · have hc : (i : Int) < (a.length : Int) := by omega
    have hx := ha i h5
    unfold Arc at hx
    have hp : (a.getD i (0, 0)).1.toNat < (nxt n a i).length := by rw [nxt_len]; omega
    have e1 := shl32_one (i := (a.getD i (0, 0)).2.toNat) (by omega)
    have hsm := nxt_sm hn (fun k hk => (ha k hk).2.2.2) i hi
    have hpow : 2 ^ (a.getD i (0, 0)).2.toNat < 4294967296 := by
      have : 2 ^ (a.getD i (0, 0)).2.toNat ≤ 2 ^ 31 := Nat.pow_le_pow_right (by decide) (by omega)
      omega
    have e2 := bitu32_or (hsm (a.getD i (0, 0)).1.toNat) hpow
    simp only [hc, prs_drop h5, u32s_drop hp, e1, e2, F_poset_next, g_poset_next, go_sem, ↓tq_n, ↓tq_e, ↓tq_r, ↓bq_n, ↓bq_e, ↓bq_r, ↓rq_n, ↓rq_r, ↓rq_e]
    have e3 : u32s (nxt n a (i + 1)) = (u32s (nxt n a i)).set (a.getD i (0, 0)).1.toNat (AV.int IntKind.u32 ((((nxt n a i).getD (a.getD i (0, 0)).1.toNat 0 ||| 2 ^ (a.getD i (0, 0)).2.toNat : Nat)) : Int)) := by
      simp only [nxt, u32s, List.map_set]
    refine ⟨hx.1, hx.2.1, hx.2.2.1, hx.1, hx.2.1, by rw [u32s_len]; omega, by rw [inR64]; omega, i + 1, by omega, by omega, ?_⟩
    rw [e3]
    exact (GStep.forget (by repeat' first | exact EnvLe.nil _ | refine EnvLe.cons (AV.le.of_eq rfl) ?_ | refine EnvLe.cons (AV.le.undef _) ?_ | refine EnvLe.cons AV.le.unk ?_) (by repeat' first | exact AH.le.refl _ | assumption | (refine AH.le_put ?_ (by first | assumption | exact (AH.blk_put_ne _ _ (by assumption)).trans (by assumption) | exact AH.none_put (by assumption) | exact AH.none_put (AH.none_put (by assumption)) | (simp only [AH.blk_setTok, AH.tok_put] at *; first | assumption | exact AH.none_put (by assumption)))) | (refine AH.le_setTok ?_ (by first | assumption | exact (AH.blk_put_ne _ _ (by assumption)).trans (by assumption) | exact AH.none_put (by assumption) | exact AH.none_put (AH.none_put (by assumption)) | (simp only [AH.blk_setTok, AH.tok_put] at *; first | assumption | exact AH.none_put (by assumption)))) | (refine AH.le_putM ?_ (by first | assumption | exact (AH.mp_putM_ne _ _ (by assumption)).trans (by assumption) | (simp only [AH.mp_put, AH.mp_setTok] at *; assumption)))))
  have h5 : i = a.length := by omega
  subst h5
  simp only [F_poset_next, g_poset_next, go_sem, ↓tq_n, ↓tq_e, ↓tq_r, ↓bq_n, ↓bq_e, ↓bq_r, ↓rq_n, ↓rq_r, ↓rq_e]
  exact ⟨_, _, RGh.refl _ _, b, hb, rfl, rfl⟩
theorem s_poset_reach (n : Nat) (hn : n ≤ 24) (nl : Bool) (a : List (Int × Int)) (tl : Tail) (ha : ∀ i, i < a.length → Arc n (a.getD i (0, 0))) (hal : a.length ≤ 100000) (h : AH) :
    ACalls Tryz.prog n_poset_reachW [I n, .sl nl a.length (prs a) tl] h (fun r h'' => ∃ b, h.blk b = none ∧ r = .msl b 0 n (some n) ∧ h'' = h.put b (u32s (wr n (nxt n a a.length) n))) := by
  refine ACalls.of hm cF_poset_reachW (by simp [g_poset_reachW]) fun hw => ?_
  simp only [F_poset_reachW, g_poset_reachW, go_sem, ↓tq_n, ↓tq_e, ↓tq_r, ↓bq_n, ↓bq_e, ↓bq_r, ↓rq_n, ↓rq_r, ↓rq_e]
  refine CallS.mk (s_poset_next n hn nl a tl ha hal _) fun r h'' hr => ?_
  obtain ⟨b, hb, rfl, rfl⟩ := hr
  simp only [F_poset_reachW, g_poset_reachW, go_sem, ↓tq_n, ↓tq_e, ↓tq_r, ↓bq_n, ↓bq_e, ↓bq_r, ↓rq_n, ↓rq_r, ↓rq_e]
  have hsm := nxt_sm hn (fun k hk => (ha k hk).2.2.2) a.length (Nat.le_refl _)
  have hln := nxt_len n a a.length
  generalize nxt n a a.length = o at hsm hln ⊢
  refine awp_loop (fun m : Nat => [(0, I n), (5, .msl b 0 n (some n)), (11, I n), (12, I m)]) (fun m => h.put b (u32s (wr n o m))) (fun m => m ≤ n) (fun m => n - m) 0 (Nat.zero_le _) (GStep.forget (by repeat' first | exact EnvLe.nil _ | refine EnvLe.cons (AV.le.of_eq rfl) ?_ | refine EnvLe.cons (AV.le.undef _) ?_ | refine EnvLe.cons AV.le.unk ?_) (by repeat' first | exact AH.le.refl _ | assumption | (refine AH.le_put ?_ (by first | assumption | exact (AH.blk_put_ne _ _ (by assumption)).trans (by assumption) | exact AH.none_put (by assumption) | exact AH.none_put (AH.none_put (by assumption)) | (simp only [AH.blk_setTok, AH.tok_put] at *; first | assumption | exact AH.none_put (by assumption)))) | (refine AH.le_setTok ?_ (by first | assumption | exact (AH.blk_put_ne _ _ (by assumption)).trans (by assumption) | exact AH.none_put (by assumption) | exact AH.none_put (AH.none_put (by assumption)) | (simp only [AH.blk_setTok, AH.tok_put] at *; first | assumption | exact AH.none_put (by assumption)))) | (refine AH.le_putM ?_ (by first | assumption | exact (AH.mp_putM_ne _ _ (by assumption)).trans (by assumption) | (simp only [AH.mp_put, AH.mp_setTok] at *; assumption))))) fun m hmn => .of_vg hm ?_
  by_cases h5 : m < n
  · have hc : (m : Int) < (n : Int) := by omega
    simp only [hc, F_poset_reachW, g_poset_reachW, go_sem, ↓tq_n, ↓tq_e, ↓tq_r, ↓bq_n, ↓bq_e, ↓bq_r, ↓rq_n, ↓rq_r, ↓rq_e]
    have hsm2 := wr_sm (n := n) hsm m
    have hln2 := wr_len n o m
    refine awp_loop (fun i : Nat => [(0, I n), (5, .msl b 0 n (some n)), (6, I m), (11, I n), (12, I m), (15, I n), (16, I i)]) (fun i => h.put b (u32s (wi m (wr n o m) i))) (fun i => i ≤ n) (fun i => n - i) 0 (Nat.zero_le _) (GStep.forget (by repeat' first | exact EnvLe.nil _ | refine EnvLe.cons (AV.le.of_eq rfl) ?_ | refine EnvLe.cons (AV.le.undef _) ?_ | refine EnvLe.cons AV.le.unk ?_) (by repeat' first | exact AH.le.refl _ | assumption | (refine AH.le_put ?_ (by first | assumption | exact (AH.blk_put_ne _ _ (by assumption)).trans (by assumption) | exact AH.none_put (by assumption) | exact AH.none_put (AH.none_put (by assumption)) | (simp only [AH.blk_setTok, AH.tok_put] at *; first | assumption | exact AH.none_put (by assumption)))) | (refine AH.le_setTok ?_ (by first | assumption | exact (AH.blk_put_ne _ _ (by assumption)).trans (by assumption) | exact AH.none_put (by assumption) | exact AH.none_put (AH.none_put (by assumption)) | (simp only [AH.blk_setTok, AH.tok_put] at *; first | assumption | exact AH.none_put (by assumption)))) | (refine AH.le_putM ?_ (by first | assumption | exact (AH.mp_putM_ne _ _ (by assumption)).trans (by assumption) | (simp only [AH.mp_put, AH.mp_setTok] at *; assumption))))) fun i hi => .of_vg hm ?_
    by_cases h6 : i < n
    · have hc2 : (i : Int) < (n : Int) := by omega
      have hsm3 := wi_sm (m := m) hsm2 i
      have hln3 := wi_len m (wr n o m) i
      have hi1 : i < (wi m (wr n o m) i).length := by omega
      have hm1 : m < (wi m (wr n o m) i).length := by omega
      simp only [hc2, u32s_drop hi1, F_poset_reachW, g_poset_reachW, go_sem, ↓tq_n, ↓tq_e, ↓tq_r, ↓bq_n, ↓bq_e, ↓bq_r, ↓rq_n, ↓rq_r, ↓rq_e]
      refine CallG.mk (r_poset_has (hsm3 i) (by omega) _) ?_
      have e2 := bitu32_or (hsm3 i) (hsm3 m)
      by_cases h7 : ((wi m (wr n o m) i).getD i 0).testBit m = true
      · have e3 : u32s (wi m (wr n o m) (i + 1)) = (u32s (wi m (wr n o m) i)).set i (AV.int IntKind.u32 (((wi m (wr n o m) i).getD i 0 ||| (wi m (wr n o m) i).getD m 0 : Nat) : Int)) := by
          rw [wi, if_pos (show bt _ i m = true from h7)]
          simp only [u32s, List.map_set]
        simp only [h7, u32s_drop hi1, u32s_drop hm1, e2, F_poset_reachW, g_poset_reachW, go_sem, ↓tq_n, ↓tq_e, ↓tq_r, ↓bq_n, ↓bq_e, ↓bq_r, ↓rq_n, ↓rq_r, ↓rq_e]
        refine ⟨hc2, hc, hc2, by rw [u32s_len]; omega, by rw [inR64]; omega, i + 1, by omega, by omega, ?_⟩
        rw [e3]
        exact (GStep.forget (by repeat' first | exact EnvLe.nil _ | refine EnvLe.cons (AV.le.of_eq rfl) ?_ | refine EnvLe.cons (AV.le.undef _) ?_ | refine EnvLe.cons AV.le.unk ?_) (by repeat' first | exact AH.le.refl _ | assumption | (refine AH.le_put ?_ (by first | assumption | exact (AH.blk_put_ne _ _ (by assumption)).trans (by assumption) | exact AH.none_put (by assumption) | exact AH.none_put (AH.none_put (by assumption)) | (simp only [AH.blk_setTok, AH.tok_put] at *; first | assumption | exact AH.none_put (by assumption)))) | (refine AH.le_setTok ?_ (by first | assumption | exact (AH.blk_put_ne _ _ (by assumption)).trans (by assumption) | exact AH.none_put (by assumption) | exact AH.none_put (AH.none_put (by assumption)) | (simp only [AH.blk_setTok, AH.tok_put] at *; first | assumption | exact AH.none_put (by assumption)))) | (refine AH.le_putM ?_ (by first | assumption | exact (AH.mp_putM_ne _ _ (by assumption)).trans (by assumption) | (simp only [AH.mp_put, AH.mp_setTok] at *; assumption)))))
      · have e3 : wi m (wr n o m) (i + 1) = wi m (wr n o m) i := by
          rw [wi, if_neg (show ¬ bt _ i m = true from h7)]
        simp only [h7, F_poset_reachW, g_poset_reachW, go_sem, ↓tq_n, ↓tq_e, ↓tq_r, ↓bq_n, ↓bq_e, ↓bq_r, ↓rq_n, ↓rq_r, ↓rq_e]
        refine ⟨by rw [inR64]; omega, i + 1, by omega, by omega, ?_⟩
        rw [e3]
        exact (GStep.forget (by repeat' first | exact EnvLe.nil _ | refine EnvLe.cons (AV.le.of_eq rfl) ?_ | refine EnvLe.cons (AV.le.undef _) ?_ | refine EnvLe.cons AV.le.unk ?_) (by repeat' first | exact AH.le.refl _ | assumption | (refine AH.le_put ?_ (by first | assumption | exact (AH.blk_put_ne _ _ (by assumption)).trans (by assumption) | exact AH.none_put (by assumption) | exact AH.none_put (AH.none_put (by assumption)) | (simp only [AH.blk_setTok, AH.tok_put] at *; first | assumption | exact AH.none_put (by assumption)))) | (refine AH.le_setTok ?_ (by first | assumption | exact (AH.blk_put_ne _ _ (by assumption)).trans (by assumption) | exact AH.none_put (by assumption) | exact AH.none_put (AH.none_put (by assumption)) | (simp only [AH.blk_setTok, AH.tok_put] at *; first | assumption | exact AH.none_put (by assumption)))) | (refine AH.le_putM ?_ (by first | assumption | exact (AH.mp_putM_ne _ _ (by assumption)).trans (by assumption) | (simp only [AH.mp_put, AH.mp_setTok] at *; assumption)))))
    have h6 : i = n := by omega
    subst h6
    simp only [F_poset_reachW, g_poset_reachW, go_sem, ↓tq_n, ↓tq_e, ↓tq_r, ↓bq_n, ↓bq_e, ↓bq_r, ↓rq_n, ↓rq_r, ↓rq_e]
    exact ⟨by rw [inR64]; omega, m + 1, by omega, by omega, (GStep.forget (by repeat' first | exact EnvLe.nil _ | refine EnvLe.cons (AV.le.of_eq rfl) ?_ | refine EnvLe.cons (AV.le.undef _) ?_ | refine EnvLe.cons AV.le.unk ?_) (by repeat' first | exact AH.le.refl _ | assumption | (refine AH.le_put ?_ (by first | assumption | exact (AH.blk_put_ne _ _ (by assumption)).trans (by assumption) | exact AH.none_put (by assumption) | exact AH.none_put (AH.none_put (by assumption)) | (simp only [AH.blk_setTok, AH.tok_put] at *; first | assumption | exact AH.none_put (by assumption)))) | (refine AH.le_setTok ?_ (by first | assumption | exact (AH.blk_put_ne _ _ (by assumption)).trans (by assumption) | exact AH.none_put (by assumption) | exact AH.none_put (AH.none_put (by assumption)) | (simp only [AH.blk_setTok, AH.tok_put] at *; first | assumption | exact AH.none_put (by assumption)))) | (refine AH.le_putM ?_ (by first | assumption | exact (AH.mp_putM_ne _ _ (by assumption)).trans (by assumption) | (simp only [AH.mp_put, AH.mp_setTok] at *; assumption)))))⟩
  have h5 : m = n := by omega
  subst h5
  simp only [F_poset_reachW, g_poset_reachW, go_sem, ↓tq_n, ↓tq_e, ↓tq_r, ↓bq_n, ↓bq_e, ↓bq_r, ↓rq_n, ↓rq_r, ↓rq_e]
  exact ⟨_, _, RGh.refl _ _, b, hb, rfl, rfl⟩
/-- The arcs of sets: of row i, the first k. -/
def lsK (r : List Nat) (i : Nat) : Nat → List (Int × Int)
  | 0 => []
  | k + 1 => lsK r i k ++ if i ≠ k ∧ bt r i k = true then [((i : Int), (k : Int))] else []
def acI (r : List Nat) : Nat → Bool
  | 0 => true
  | i + 1 => acI r i && !bt r i i
theorem acI_false {r : List Nat} {i : Nat} : ∀ {n : Nat}, i < n → bt r i i = true → acI r n = false := by
  intro n
  induction n with
  | zero => intro h; omega
  | succ n ih =>
    intro h hb
    rw [acI]
    by_cases h1 : i = n
    · subst h1; rw [hb]; simp
    · rw [ih (by omega) hb]; rfl
theorem r_poset_acyclic (b n : Nat) (r : List Nat) (hr : r.length = n) (hn : n ≤ 24) (hs : Sm r) (h : AH) (hb : h.blk b = some (u32s r)) :
    RCall Tryz.prog n_poset_acyclic [.msl b 0 n (some n)] h (.bool (acI r n)) := by
  refine RCall.of hm cF_poset_acyclic (by simp [g_poset_acyclic]) fun hw h' hl => ?_
  have hb' := hl.1 _ _ hb
  simp only [F_poset_acyclic, g_poset_acyclic, go_sem, ↓tq_n, ↓tq_e, ↓tq_r, ↓bq_n, ↓bq_e, ↓bq_r, ↓rq_n, ↓rq_r, ↓rq_e]
  refine awp_loop (fun i : Nat => [(5, .msl b 0 n (some n)), (6, I n), (7, I i)]) (fun _ => h') (fun i => i ≤ n ∧ acI r i = true) (fun i => n - i) 0 ⟨Nat.zero_le _, rfl⟩ (GStep.forget (by repeat' first | exact EnvLe.nil _ | refine EnvLe.cons (AV.le.of_eq rfl) ?_ | refine EnvLe.cons (AV.le.undef _) ?_ | refine EnvLe.cons AV.le.unk ?_) (by repeat' first | exact AH.le.refl _ | assumption | (refine AH.le_put ?_ (by first | assumption | exact (AH.blk_put_ne _ _ (by assumption)).trans (by assumption) | exact AH.none_put (by assumption) | exact AH.none_put (AH.none_put (by assumption)) | (simp only [AH.blk_setTok, AH.tok_put] at *; first | assumption | exact AH.none_put (by assumption)))) | (refine AH.le_setTok ?_ (by first | assumption | exact (AH.blk_put_ne _ _ (by assumption)).trans (by assumption) | exact AH.none_put (by assumption) | exact AH.none_put (AH.none_put (by assumption)) | (simp only [AH.blk_setTok, AH.tok_put] at *; first | assumption | exact AH.none_put (by assumption)))) | (refine AH.le_putM ?_ (by first | assumption | exact (AH.mp_putM_ne _ _ (by assumption)).trans (by assumption) | (simp only [AH.mp_put, AH.mp_setTok] at *; assumption))))) fun i hi => .of_vg hm ?_
  obtain ⟨hi, ha⟩ := hi
  by_cases h5 : i < n
  · have hc : (i : Int) < (n : Int) := by omega
    simp only [hc, hb', u32s_drop (l := r) (i := i) (by omega), F_poset_acyclic, g_poset_acyclic, go_sem, ↓tq_n, ↓tq_e, ↓tq_r, ↓bq_n, ↓bq_e, ↓bq_r, ↓rq_n, ↓rq_r, ↓rq_e]
    refine CallG.mk (r_poset_has (hs i) (by omega) _) ?_
    by_cases h7 : (r.getD i 0).testBit i = true
    · simp only [h7, F_poset_acyclic, g_poset_acyclic, go_sem, ↓tq_n, ↓tq_e, ↓tq_r, ↓bq_n, ↓bq_e, ↓bq_r, ↓rq_n, ↓rq_r, ↓rq_e]
      exact ret_ok (by rw [acI_false h5 h7])
    · simp only [h7, F_poset_acyclic, g_poset_acyclic, go_sem, ↓tq_n, ↓tq_e, ↓tq_r, ↓bq_n, ↓bq_e, ↓bq_r, ↓rq_n, ↓rq_r, ↓rq_e]
      refine ⟨by rw [inR64]; omega, i + 1, ⟨by omega, ?_⟩, by omega, (GStep.forget (by repeat' first | exact EnvLe.nil _ | refine EnvLe.cons (AV.le.of_eq rfl) ?_ | refine EnvLe.cons (AV.le.undef _) ?_ | refine EnvLe.cons AV.le.unk ?_) (by repeat' first | exact AH.le.refl _ | assumption | (refine AH.le_put ?_ (by first | assumption | exact (AH.blk_put_ne _ _ (by assumption)).trans (by assumption) | exact AH.none_put (by assumption) | exact AH.none_put (AH.none_put (by assumption)) | (simp only [AH.blk_setTok, AH.tok_put] at *; first | assumption | exact AH.none_put (by assumption)))) | (refine AH.le_setTok ?_ (by first | assumption | exact (AH.blk_put_ne _ _ (by assumption)).trans (by assumption) | exact AH.none_put (by assumption) | exact AH.none_put (AH.none_put (by assumption)) | (simp only [AH.blk_setTok, AH.tok_put] at *; first | assumption | exact AH.none_put (by assumption)))) | (refine AH.le_putM ?_ (by first | assumption | exact (AH.mp_putM_ne _ _ (by assumption)).trans (by assumption) | (simp only [AH.mp_put, AH.mp_setTok] at *; assumption)))))⟩
      rw [acI, ha]
      rw [show bt r i i = false from Bool.eq_false_iff.2 h7]
      rfl
  have h5 : i = n := by omega
  subst h5
  simp only [F_poset_acyclic, g_poset_acyclic, go_sem, ↓tq_n, ↓tq_e, ↓tq_r, ↓bq_n, ↓bq_e, ↓bq_r, ↓rq_n, ↓rq_r, ↓rq_e]
  exact ret_ok (by simp [ha])
end Go.Proofs.YtidmekdkfiljjaaGreat.P
namespace Go.Proofs.YtidmekdkfiljjaaGreat.P
open Go Go.Abs
set_option linter.unusedSimpArgs false
set_option linter.unusedVariables false
set_option maxRecDepth 20000

/-- One arc of a digraph, and that it comes after the one before. -/
def DgA (n : Int) (a : List (Int × Int)) (i : Nat) : Prop :=
  (0 ≤ (a.getD i (0, 0)).1 ∧ (a.getD i (0, 0)).1 < n ∧ 0 ≤ (a.getD i (0, 0)).2 ∧ (a.getD i (0, 0)).2 < n ∧ (a.getD i (0, 0)).1 ≠ (a.getD i (0, 0)).2) ∧
  (0 < i → (a.getD (i - 1) (0, 0)).1 < (a.getD i (0, 0)).1 ∨ (a.getD (i - 1) (0, 0)).1 = (a.getD i (0, 0)).1 ∧ (a.getD (i - 1) (0, 0)).2 < (a.getD i (0, 0)).2)
instance (n : Int) (a : List (Int × Int)) (i : Nat) : Decidable (DgA n a i) := by unfold DgA; infer_instance
def Dg (n : Int) (a : List (Int × Int)) : Prop := 0 ≤ n ∧ n ≤ 24 ∧ ∀ i, i < a.length → DgA n a i
instance (n : Int) (a : List (Int × Int)) : Decidable (Dg n a) := by unfold Dg; infer_instance
set_option maxHeartbeats 2000000 in
theorem r_poset_Valid (n : Int) (nl : Bool) (a : List (Int × Int)) (tl : Tail) (h : AH) : RCall Tryz.prog n_poset_Valid [I n, .sl nl a.length (prs a) tl] h (.bool (decide (Dg n a))) := by
  refine RCall.of hm cF_poset_Valid (by simp [g_poset_Valid]) fun hw h' hl => ?_
  have hx := wf_len (hw _ (.tail _ (.head _)))
  by_cases h0 : n < 0
  · simp only [h0, F_poset_Valid, g_poset_Valid, go_sem, ↓tq_n, ↓tq_e, ↓tq_r, ↓bq_n, ↓bq_e, ↓bq_r, ↓rq_n, ↓rq_r, ↓rq_e]
    exact ret_ok (by rw [decide_eq_false (fun hh => by have := hh.1; omega)])
  by_cases h1 : 24 < n
  · simp only [h0, h1, F_poset_Valid, g_poset_Valid, go_sem, ↓tq_n, ↓tq_e, ↓tq_r, ↓bq_n, ↓bq_e, ↓bq_r, ↓rq_n, ↓rq_r, ↓rq_e]
    exact ret_ok (by rw [decide_eq_false (fun hh => by have := hh.2.1; omega)])
  simp only [h0, h1, F_poset_Valid, g_poset_Valid, go_sem, ↓tq_n, ↓tq_e, ↓tq_r, ↓bq_n, ↓bq_e, ↓bq_r, ↓rq_n, ↓rq_r, ↓rq_e]
  refine awp_loop (fun i : Nat => [(0, I n), (1, .sl nl a.length (prs a) tl), (13, .sl nl a.length (prs a) tl), (14, I a.length), (15, I i)]) (fun _ => h') (fun i => i ≤ a.length ∧ ∀ j, j < i → DgA n a j) (fun i => a.length - i) 0 ⟨Nat.zero_le _, fun j hj => by omega⟩ (GStep.forget (by repeat' first | exact EnvLe.nil _ | refine EnvLe.cons (AV.le.of_eq rfl) ?_ | refine EnvLe.cons (AV.le.undef _) ?_ | refine EnvLe.cons AV.le.unk ?_) (by repeat' first | exact AH.le.refl _ | assumption | (refine AH.le_put ?_ (by first | assumption | exact (AH.blk_put_ne _ _ (by assumption)).trans (by assumption) | exact AH.none_put (by assumption) | exact AH.none_put (AH.none_put (by assumption)) | (simp only [AH.blk_setTok, AH.tok_put] at *; first | assumption | exact AH.none_put (by assumption)))) | (refine AH.le_setTok ?_ (by first | assumption | exact (AH.blk_put_ne _ _ (by assumption)).trans (by assumption) | exact AH.none_put (by assumption) | exact AH.none_put (AH.none_put (by assumption)) | (simp only [AH.blk_setTok, AH.tok_put] at *; first | assumption | exact AH.none_put (by assumption)))) | (refine AH.le_putM ?_ (by first | assumption | exact (AH.mp_putM_ne _ _ (by assumption)).trans (by assumption) | (simp only [AH.mp_put, AH.mp_setTok] at *; assumption))))) fun i hi => .of_vg hm ?_
  obtain ⟨hi, ha⟩ := hi
  by_cases h5 : i < a.length
  · have hc : (i : Int) < (a.length : Int) := by omega
    by_cases h6 : 0 ≤ (a.getD i (0, 0)).1 ∧ (a.getD i (0, 0)).1 < n ∧ 0 ≤ (a.getD i (0, 0)).2 ∧ (a.getD i (0, 0)).2 < n ∧ (a.getD i (0, 0)).1 ≠ (a.getD i (0, 0)).2
    · have k1 : ¬ (a.getD i (0, 0)).1 < 0 := by omega
      have k2 : ¬ n ≤ (a.getD i (0, 0)).1 := by omega
      have k3 : ¬ (a.getD i (0, 0)).2 < 0 := by omega
      have k4 : ¬ n ≤ (a.getD i (0, 0)).2 := by omega
      have k5 := h6.2.2.2.2
      by_cases h7 : i = 0
      · subst h7
        simp only [hc, prs_drop h5, k1, k2, k3, k4, k5, F_poset_Valid, g_poset_Valid, go_sem, ↓tq_n, ↓tq_e, ↓tq_r, ↓bq_n, ↓bq_e, ↓bq_r, ↓rq_n, ↓rq_r, ↓rq_e]
        refine ⟨fun hh => by omega, fun _ => ⟨by rw [inR64]; omega, 1, ⟨by omega, fun j hj => by rw [show j = 0 by omega]; exact ⟨h6, fun hh => by omega⟩⟩, by omega, (GStep.forget (by repeat' first | exact EnvLe.nil _ | refine EnvLe.cons (AV.le.of_eq rfl) ?_ | refine EnvLe.cons (AV.le.undef _) ?_ | refine EnvLe.cons AV.le.unk ?_) (by repeat' first | exact AH.le.refl _ | assumption | (refine AH.le_put ?_ (by first | assumption | exact (AH.blk_put_ne _ _ (by assumption)).trans (by assumption) | exact AH.none_put (by assumption) | exact AH.none_put (AH.none_put (by assumption)) | (simp only [AH.blk_setTok, AH.tok_put] at *; first | assumption | exact AH.none_put (by assumption)))) | (refine AH.le_setTok ?_ (by first | assumption | exact (AH.blk_put_ne _ _ (by assumption)).trans (by assumption) | exact AH.none_put (by assumption) | exact AH.none_put (AH.none_put (by assumption)) | (simp only [AH.blk_setTok, AH.tok_put] at *; first | assumption | exact AH.none_put (by assumption)))) | (refine AH.le_putM ?_ (by first | assumption | exact (AH.mp_putM_ne _ _ (by assumption)).trans (by assumption) | (simp only [AH.mp_put, AH.mp_setTok] at *; assumption)))))⟩⟩
      have h8 : (0 : Int) < (i : Int) := by omega
      have e8 : ((i : Int) - 1).toNat = i - 1 := by omega
      have h9 : i - 1 < a.length := by omega
      have hr1 : InR .i64 ((i : Int) - 1) := by rw [inR64]; omega
      have hr2 : (0 : Int) ≤ (i : Int) - 1 := by omega
      have hr3 : (i : Int) - 1 < (a.length : Int) := by omega
      by_cases k6 : (a.getD (i - 1) (0, 0)).1 < (a.getD i (0, 0)).1 ∨ (a.getD (i - 1) (0, 0)).1 = (a.getD i (0, 0)).1 ∧ (a.getD (i - 1) (0, 0)).2 < (a.getD i (0, 0)).2
      · have hstep : ∀ j, j < i + 1 → DgA n a j := all_succ ha ⟨h6, fun _ => k6⟩
        have k7 : ¬ (a.getD i (0, 0)).1 < (a.getD (i - 1) (0, 0)).1 := by omega
        by_cases k8 : (a.getD i (0, 0)).1 = (a.getD (i - 1) (0, 0)).1
        · have k8' : decide ((a.getD i (0, 0)).1 = (a.getD (i - 1) (0, 0)).1) = true := decide_eq_true k8
          have k9 : ¬ (a.getD i (0, 0)).2 ≤ (a.getD (i - 1) (0, 0)).2 := by omega
          simp only [hc, prs_drop h5, k1, k2, k3, k4, k5, h8, e8, hr1, hr2, hr3, prs_drop h9, k7, k8', k9, F_poset_Valid, g_poset_Valid, go_sem, ↓tq_n, ↓tq_e, ↓tq_r, ↓bq_n, ↓bq_e, ↓bq_r, ↓rq_n, ↓rq_r, ↓rq_e]
          exact ⟨by rw [inR64]; omega, i + 1, ⟨by omega, hstep⟩, by omega, (GStep.forget (by repeat' first | exact EnvLe.nil _ | refine EnvLe.cons (AV.le.of_eq rfl) ?_ | refine EnvLe.cons (AV.le.undef _) ?_ | refine EnvLe.cons AV.le.unk ?_) (by repeat' first | exact AH.le.refl _ | assumption | (refine AH.le_put ?_ (by first | assumption | exact (AH.blk_put_ne _ _ (by assumption)).trans (by assumption) | exact AH.none_put (by assumption) | exact AH.none_put (AH.none_put (by assumption)) | (simp only [AH.blk_setTok, AH.tok_put] at *; first | assumption | exact AH.none_put (by assumption)))) | (refine AH.le_setTok ?_ (by first | assumption | exact (AH.blk_put_ne _ _ (by assumption)).trans (by assumption) | exact AH.none_put (by assumption) | exact AH.none_put (AH.none_put (by assumption)) | (simp only [AH.blk_setTok, AH.tok_put] at *; first | assumption | exact AH.none_put (by assumption)))) | (refine AH.le_putM ?_ (by first | assumption | exact (AH.mp_putM_ne _ _ (by assumption)).trans (by assumption) | (simp only [AH.mp_put, AH.mp_setTok] at *; assumption)))))⟩
        · simp only [hc, prs_drop h5, k1, k2, k3, k4, k5, h8, e8, hr1, hr2, hr3, prs_drop h9, k7, k8, F_poset_Valid, g_poset_Valid, go_sem, ↓tq_n, ↓tq_e, ↓tq_r, ↓bq_n, ↓bq_e, ↓bq_r, ↓rq_n, ↓rq_r, ↓rq_e]
          exact ⟨by rw [inR64]; omega, i + 1, ⟨by omega, hstep⟩, by omega, (GStep.forget (by repeat' first | exact EnvLe.nil _ | refine EnvLe.cons (AV.le.of_eq rfl) ?_ | refine EnvLe.cons (AV.le.undef _) ?_ | refine EnvLe.cons AV.le.unk ?_) (by repeat' first | exact AH.le.refl _ | assumption | (refine AH.le_put ?_ (by first | assumption | exact (AH.blk_put_ne _ _ (by assumption)).trans (by assumption) | exact AH.none_put (by assumption) | exact AH.none_put (AH.none_put (by assumption)) | (simp only [AH.blk_setTok, AH.tok_put] at *; first | assumption | exact AH.none_put (by assumption)))) | (refine AH.le_setTok ?_ (by first | assumption | exact (AH.blk_put_ne _ _ (by assumption)).trans (by assumption) | exact AH.none_put (by assumption) | exact AH.none_put (AH.none_put (by assumption)) | (simp only [AH.blk_setTok, AH.tok_put] at *; first | assumption | exact AH.none_put (by assumption)))) | (refine AH.le_putM ?_ (by first | assumption | exact (AH.mp_putM_ne _ _ (by assumption)).trans (by assumption) | (simp only [AH.mp_put, AH.mp_setTok] at *; assumption)))))⟩
      · have no : decide (Dg n a) = false := decide_eq_false fun hh => k6 ((hh.2.2 i h5).2 (by omega))
        by_cases k7 : (a.getD i (0, 0)).1 < (a.getD (i - 1) (0, 0)).1
        · simp only [hc, prs_drop h5, k1, k2, k3, k4, k5, h8, e8, hr1, hr2, hr3, prs_drop h9, k7, F_poset_Valid, g_poset_Valid, go_sem, ↓tq_n, ↓tq_e, ↓tq_r, ↓bq_n, ↓bq_e, ↓bq_r, ↓rq_n, ↓rq_r, ↓rq_e]
          exact ret_ok (by rw [no])
        · have k8' : decide ((a.getD i (0, 0)).1 = (a.getD (i - 1) (0, 0)).1) = true := decide_eq_true (by omega)
          have k9 : (a.getD i (0, 0)).2 ≤ (a.getD (i - 1) (0, 0)).2 := by omega
          simp only [hc, prs_drop h5, k1, k2, k3, k4, k5, h8, e8, hr1, hr2, hr3, prs_drop h9, k7, k8', k9, F_poset_Valid, g_poset_Valid, go_sem, ↓tq_n, ↓tq_e, ↓tq_r, ↓bq_n, ↓bq_e, ↓bq_r, ↓rq_n, ↓rq_r, ↓rq_e]
          exact ret_ok (by rw [no])
    · have no : decide (Dg n a) = false := decide_eq_false fun hh => h6 (hh.2.2 i h5).1
      by_cases k1 : (a.getD i (0, 0)).1 < 0
      · simp only [hc, prs_drop h5, k1, F_poset_Valid, g_poset_Valid, go_sem, ↓tq_n, ↓tq_e, ↓tq_r, ↓bq_n, ↓bq_e, ↓bq_r, ↓rq_n, ↓rq_r, ↓rq_e]
        exact ret_ok (by rw [no])
      by_cases k2 : n ≤ (a.getD i (0, 0)).1
      · simp only [hc, prs_drop h5, k1, k2, F_poset_Valid, g_poset_Valid, go_sem, ↓tq_n, ↓tq_e, ↓tq_r, ↓bq_n, ↓bq_e, ↓bq_r, ↓rq_n, ↓rq_r, ↓rq_e]
        exact ret_ok (by rw [no])
      by_cases k3 : (a.getD i (0, 0)).2 < 0
      · simp only [hc, prs_drop h5, k1, k2, k3, F_poset_Valid, g_poset_Valid, go_sem, ↓tq_n, ↓tq_e, ↓tq_r, ↓bq_n, ↓bq_e, ↓bq_r, ↓rq_n, ↓rq_r, ↓rq_e]
        exact ret_ok (by rw [no])
      by_cases k4 : n ≤ (a.getD i (0, 0)).2
      · simp only [hc, prs_drop h5, k1, k2, k3, k4, F_poset_Valid, g_poset_Valid, go_sem, ↓tq_n, ↓tq_e, ↓tq_r, ↓bq_n, ↓bq_e, ↓bq_r, ↓rq_n, ↓rq_r, ↓rq_e]
        exact ret_ok (by rw [no])
      by_cases k5 : (a.getD i (0, 0)).1 = (a.getD i (0, 0)).2
      · have k5' : decide ((a.getD i (0, 0)).1 = (a.getD i (0, 0)).2) = true := decide_eq_true k5
        simp only [hc, prs_drop h5, k1, k2, k3, k4, k5', F_poset_Valid, g_poset_Valid, go_sem, ↓tq_n, ↓tq_e, ↓tq_r, ↓bq_n, ↓bq_e, ↓bq_r, ↓rq_n, ↓rq_r, ↓rq_e]
        exact ret_ok (by rw [no])
      exact absurd ⟨by omega, by omega, by omega, by omega, k5⟩ h6
  have h5 : i = a.length := by omega
  subst h5
  simp only [F_poset_Valid, g_poset_Valid, go_sem, ↓tq_n, ↓tq_e, ↓tq_r, ↓bq_n, ↓bq_e, ↓bq_r, ↓rq_n, ↓rq_r, ↓rq_e]
  exact ret_ok (by rw [decide_eq_true ⟨by omega, by omega, ha⟩])

/-- The closure as the code computes it. -/
def posR (n : Nat) (a : List (Int × Int)) : List Nat := wr n (nxt n a a.length) n
theorem Dg.arc {n : Nat} {a : List (Int × Int)} (h : Dg n a) : ∀ i, i < a.length → Arc n (a.getD i (0, 0)) := fun i hi => by
  have := (h.2.2 i hi).1
  exact ⟨this.1, this.2.1, this.2.2.1, this.2.2.2.1⟩
theorem posR_len (n : Nat) (a : List (Int × Int)) : (posR n a).length = n := by unfold posR; rw [wr_len, nxt_len]
theorem posR_sm {n : Nat} {a : List (Int × Int)} (h : Dg n a) : Sm (posR n a) := wr_sm (nxt_sm (by have := h.2.1; omega) (fun i hi => (h.arc i hi).2.2.2) _ (Nat.le_refl _)) n
theorem r_poset_Acyclic (n : Nat) (nl : Bool) (a : List (Int × Int)) (tl : Tail) (hal : a.length ≤ 100000) (h : AH) : RCall Tryz.prog n_poset_AcyclicW [I n, .sl nl a.length (prs a) tl] h
    (.bool (decide (Dg n a) && acI (posR n a) n)) := by
  refine RCall.of hm cF_poset_AcyclicW (by simp [g_poset_AcyclicW]) fun hw h' hl => ?_
  simp only [F_poset_AcyclicW, g_poset_AcyclicW, go_sem, ↓tq_n, ↓tq_e, ↓tq_r, ↓bq_n, ↓bq_e, ↓bq_r, ↓rq_n, ↓rq_r, ↓rq_e]
  refine CallG.mk (r_poset_Valid n nl a tl _) ?_
  by_cases hd : Dg n a
  · have hn : n ≤ 24 := by have := hd.2.1; omega
    rw [decide_eq_true hd]
    simp only [F_poset_AcyclicW, g_poset_AcyclicW, go_sem, ↓tq_n, ↓tq_e, ↓tq_r, ↓bq_n, ↓bq_e, ↓bq_r, ↓rq_n, ↓rq_r, ↓rq_e]
    refine CallS.mk (s_poset_reach n hn nl a tl hd.arc hal _) fun r h'' hr => ?_
    obtain ⟨b, hb, rfl, rfl⟩ := hr
    simp only [F_poset_AcyclicW, g_poset_AcyclicW, go_sem, ↓tq_n, ↓tq_e, ↓tq_r, ↓bq_n, ↓bq_e, ↓bq_r, ↓rq_n, ↓rq_r, ↓rq_e]
    refine CallG.mk (r_poset_acyclic b n (posR n a) (posR_len n a) hn (posR_sm hd) _ (AH.blk_put _ _ _)) ?_
    simp only [F_poset_AcyclicW, g_poset_AcyclicW, go_sem, ↓tq_n, ↓tq_e, ↓tq_r, ↓bq_n, ↓bq_e, ↓bq_r, ↓rq_n, ↓rq_r, ↓rq_e]
    exact ret_hb (AH.le_new _ _ hb) (by simp)
  · rw [decide_eq_false hd]
    simp only [F_poset_AcyclicW, g_poset_AcyclicW, go_sem, ↓tq_n, ↓tq_e, ↓tq_r, ↓bq_n, ↓bq_e, ↓bq_r, ↓rq_n, ↓rq_r, ↓rq_e]
    exact ret_ok (by simp)
end Go.Proofs.YtidmekdkfiljjaaGreat.P
namespace Go.Proofs.YtidmekdkfiljjaaGreat
open Go Go.Abs
set_option linter.unusedSimpArgs false
set_option linter.unusedVariables false
set_option maxRecDepth 20000

theorem bitu32_not {x y : Nat} (hx : x < 4294967296) (hy : y < 4294967296) : ∃ Y : Nat, bitop .andNot .u32 (x : Int) (y : Int) = (Y : Int) ∧ Y < 4294967296 ∧ ∀ i, Y.testBit i = (x.testBit i && !y.testBit i) := by
  refine ⟨(BitVec.ofNat 32 x &&& ~~~ (BitVec.ofNat 32 y)).toNat, ?_, (BitVec.ofNat 32 x &&& ~~~ (BitVec.ofNat 32 y)).isLt, fun i => ?_⟩
  · show IntKind.wrap .u32 (((BitVec.ofInt 32 (x : Int) &&& ~~~ (BitVec.ofInt 32 (y : Int))).toNat : Nat) : Int) = _
    rw [ofInt32_nat, ofInt32_nat]
    exact wrap_u32 (BitVec.ofNat 32 x &&& ~~~ (BitVec.ofNat 32 y)).isLt
  · rw [BitVec.testBit_toNat, BitVec.getLsbD_and, BitVec.getLsbD_not, BitVec.getLsbD_ofNat, BitVec.getLsbD_ofNat]
    by_cases h : i < 32
    · simp [h]
    · have : x.testBit i = false := Nat.testBit_lt_two_pow (Nat.lt_of_lt_of_le hx (by
        show 2 ^ 32 ≤ 2 ^ i
        exact Nat.pow_le_pow_right (by decide) (by omega)))
      simp [h, this]
theorem pow32 {i : Nat} (h : i < 32) : 2 ^ i < 4294967296 := by
  have : 2 ^ i ≤ 2 ^ 31 := Nat.pow_le_pow_right (by decide) (by omega)
  omega
theorem bits32 {X n : Nat} (hn : n ≤ 32) (h : ∀ y, X.testBit y = true → y < n) : X < 4294967296 := by
  have : X < 2 ^ n := Nat.lt_pow_two_of_testBit _ fun i hi => by
    cases hb : X.testBit i with
    | false => rfl
    | true => have := h i hb; omega
  have h2 : 2 ^ n ≤ 2 ^ 32 := Nat.pow_le_pow_right (by decide) hn
  omega
theorem sc_nxt {n : Nat} {a : List (Int × Int)} (ha : ∀ i, i < a.length → Arc n (a.getD i (0, 0))) (u : Nat) : Sc a u ((nxt n a a.length).getD u 0) := fun y => by
  have h := nxt_bt (n := n) (a := a) (fun i hi => ha i hi) a.length (Nat.le_refl _) u y
  refine h.trans ⟨fun ⟨q, h1, h2⟩ => ⟨q, h1, by unfold fr; rw [h2]; simp, by unfold tt; rw [h2]; simp⟩, fun ⟨q, h1, h2, h3⟩ => ⟨q, h1, ?_⟩⟩
  have h4 := ha q h1
  unfold Arc at h4
  unfold fr at h2
  unfold tt at h3
  rcases hg : a.getD q (0, 0) with ⟨x, y'⟩
  rw [hg] at h2 h3 h4
  simp only at h2 h3 h4
  simp only [Prod.mk.injEq]
  omega
set_option maxHeartbeats 4000000 in
theorem s_poset_home (n : Nat) (hn : n ≤ 24) (a : List (Int × Int)) (ha : ∀ i, i < a.length → Arc n (a.getD i (0, 0))) (hal : a.length ≤ 100000) (v : Nat) (hv : v < n) (bs : Nat) (h : AH) (hb : h.blk bs = some (u32s (nxt n a a.length))) :
    ACalls Tryz.prog n_poset_home [.msl bs 0 n (some n), I v] h (fun r h'' => ∃ b, h.blk b = none ∧ r = .msl b 0 n (some n) ∧ h'' = h.put b (i64s (hmL n a v))) := by
  refine ACalls.of hm cF_poset_home (by simp [g_poset_home]) fun hw => ?_
  have haf : ∀ k, k < a.length → fr a k < n := fun k hk => by have := ha k hk; unfold Arc at this; unfold fr; omega
  have e1 := shl32_one (i := v) (by omega)
  have hz : ((0 : Nat) : Int) = 0 := rfl
  have hmv := pow32 (show v < 32 by omega)
  have hsl : (nxt n a a.length).length = n := nxt_len _ _ _
  have hsm : ∀ i, (nxt n a a.length).getD i 0 < 4294967296 := nxt_sm hn (fun k hk => (ha k hk).2.2.2) a.length (Nat.le_refl _)
  have hsc := fun u => sc_nxt ha u
  generalize nxt n a a.length = sc at hb hsl hsm hsc
  simp only [F_poset_home, g_poset_home, go_sem, ↓tq_n, ↓tq_e, ↓tq_r, ↓bq_n, ↓bq_e, ↓bq_r, ↓rq_n, ↓rq_r, ↓rq_e]
  refine MakeG.mk (by omega) (Int.le_refl _) (by omega) (by omega) fun b hbn => ?_
  rw [flat_rep]
  have hne : bs ≠ b := fun hh => by subst hh; rw [hb] at hbn; cases hbn
  simp only [e1, F_poset_home, g_poset_home, go_sem, ↓tq_n, ↓tq_e, ↓tq_r, ↓bq_n, ↓bq_e, ↓bq_r, ↓rq_n, ↓rq_r, ↓rq_e]
  refine awp_loop (fun x : Nat × List Int × Nat => [(0, .msl bs 0 n (some n)), (1, I v), (5, .msl b 0 n (some n)), (6, .int .u32 x.2.2), (7, I x.1)]) (fun x => h.put b (i64s x.2.1)) (fun x => 1 ≤ x.1 ∧ x.1 ≤ n + 1 ∧ HmT n a v x.1 x.2.1 ∧ Lym a v x.1 x.2.2 ∧ x.2.2 < 4294967296) (fun x => n + 1 - x.1) (1, List.replicate n 0, 2 ^ v) ⟨Nat.le_refl _, by omega, hmT_one n a v, lym_one a v, hmv⟩ (by simp only [i64s, List.map_replicate]; exact (GStep.forget (by repeat' first | exact EnvLe.nil _ | refine EnvLe.cons (AV.le.of_eq rfl) ?_ | refine EnvLe.cons (AV.le.undef _) ?_ | refine EnvLe.cons AV.le.unk ?_) (by repeat' first | exact AH.le.refl _ | assumption | (refine AH.le_put ?_ (by first | assumption | exact (AH.blk_put_ne _ _ (by assumption)).trans (by assumption) | exact AH.none_put (by assumption) | exact AH.none_put (AH.none_put (by assumption)) | (simp only [AH.blk_setTok, AH.tok_put] at *; first | assumption | exact AH.none_put (by assumption)))) | (refine AH.le_setTok ?_ (by first | assumption | exact (AH.blk_put_ne _ _ (by assumption)).trans (by assumption) | exact AH.none_put (by assumption) | exact AH.none_put (AH.none_put (by assumption)) | (simp only [AH.blk_setTok, AH.tok_put] at *; first | assumption | exact AH.none_put (by assumption)))) | (refine AH.le_putM ?_ (by first | assumption | exact (AH.mp_putM_ne _ _ (by assumption)).trans (by assumption) | (simp only [AH.mp_put, AH.mp_setTok] at *; assumption)))))) fun x hx => .of_vg hm ?_
  obtain ⟨s, d, m⟩ := x
  obtain ⟨hs1, hsn, hT, hL, hm32⟩ := hx
  simp only at hs1 hsn hT hL hm32 ⊢
  by_cases hm0 : m = 0
  · subst hm0
    have hd := hm_done haf hv hs1 hT hL
    subst hd
    simp only [hz, F_poset_home, g_poset_home, go_sem, ↓tq_n, ↓tq_e, ↓tq_r, ↓bq_n, ↓bq_e, ↓bq_r, ↓rq_n, ↓rq_r, ↓rq_e]
    exact ⟨_, _, RGh.refl _ _, b, hbn, rfl, rfl⟩
  have hm0' : ¬ (m : Int) = 0 := by omega
  have hsn2 := lym_le haf hv hs1 hL hm0
  simp only [hm0', F_poset_home, g_poset_home, go_sem, ↓tq_n, ↓tq_e, ↓tq_r, ↓bq_n, ↓bq_e, ↓bq_r, ↓rq_n, ↓rq_r, ↓rq_e]
  refine awp_loop (fun y : Nat × List Int × Nat => [(0, .msl bs 0 n (some n)), (1, I v), (5, .msl b 0 n (some n)), (6, .int .u32 m), (7, I s), (8, .int .u32 y.2.2), (9, I y.1)]) (fun y => h.put b (i64s y.2.1)) (fun y => v ≤ y.1 ∧ y.1 ≤ n ∧ HmJ n a v s y.1 y.2.1 y.2.2) (fun y => n - y.1) (v, d, 0) ⟨Nat.le_refl _, by omega, hmJ_zero hs1 hT⟩ (GStep.forget (by repeat' first | exact EnvLe.nil _ | refine EnvLe.cons (AV.le.of_eq rfl) ?_ | refine EnvLe.cons (AV.le.undef _) ?_ | refine EnvLe.cons AV.le.unk ?_) (by repeat' first | exact AH.le.refl _ | assumption | (refine AH.le_put ?_ (by first | assumption | exact (AH.blk_put_ne _ _ (by assumption)).trans (by assumption) | exact AH.none_put (by assumption) | exact AH.none_put (AH.none_put (by assumption)) | (simp only [AH.blk_setTok, AH.tok_put] at *; first | assumption | exact AH.none_put (by assumption)))) | (refine AH.le_setTok ?_ (by first | assumption | exact (AH.blk_put_ne _ _ (by assumption)).trans (by assumption) | exact AH.none_put (by assumption) | exact AH.none_put (AH.none_put (by assumption)) | (simp only [AH.blk_setTok, AH.tok_put] at *; first | assumption | exact AH.none_put (by assumption)))) | (refine AH.le_putM ?_ (by first | assumption | exact (AH.mp_putM_ne _ _ (by assumption)).trans (by assumption) | (simp only [AH.mp_put, AH.mp_setTok] at *; assumption))))) fun y hy => .of_vg hm ?_
  obtain ⟨u, f, X⟩ := y
  obtain ⟨hvu, hun, hJ⟩ := hy
  simp only at hvu hun hJ ⊢
  have hX := bits32 (X := X) (n := n) (by omega) (fun z hz => ((hJ.bits z).1 hz).2.1)
  have hfl := hJ.len
  by_cases hu : u < n
  · have hc : (u : Int) < (n : Int) := by omega
    have huf : u < f.length := by omega
    have hus : u < sc.length := by omega
    have e2 := bitu32_and (hsm u) hm32
    have e3 := shl32_one (i := u) (by omega)
    have hpu := pow32 (show u < 32 by omega)
    have e4 := bitu32_or hX hpu
    have hsu := hsc u
    have hbb : (h.put b (i64s f)).blk bs = some (u32s sc) := (AH.blk_put_ne _ _ hne).trans hb
    by_cases c1 : f.getD u 0 = 0
    · by_cases c2 : sc.getD u 0 &&& m = 0
      · simp only [hc, i64s_drop huf, u32s_drop hus, c1, e2, c2, hbb, hz, F_poset_home, g_poset_home, go_sem, ↓tq_n, ↓tq_e, ↓tq_r, ↓bq_n, ↓bq_e, ↓bq_r, ↓rq_n, ↓rq_r, ↓rq_e]
        exact ⟨by rw [inR64]; omega, (u + 1, f, X), ⟨by omega, by omega, hmJ_no hs1 hL hsu hu hJ (fun hh => hh.2 c2)⟩, by simp only; omega, (GStep.forget (by repeat' first | exact EnvLe.nil _ | refine EnvLe.cons (AV.le.of_eq rfl) ?_ | refine EnvLe.cons (AV.le.undef _) ?_ | refine EnvLe.cons AV.le.unk ?_) (by repeat' first | exact AH.le.refl _ | assumption | (refine AH.le_put ?_ (by first | assumption | exact (AH.blk_put_ne _ _ (by assumption)).trans (by assumption) | exact AH.none_put (by assumption) | exact AH.none_put (AH.none_put (by assumption)) | (simp only [AH.blk_setTok, AH.tok_put] at *; first | assumption | exact AH.none_put (by assumption)))) | (refine AH.le_setTok ?_ (by first | assumption | exact (AH.blk_put_ne _ _ (by assumption)).trans (by assumption) | exact AH.none_put (by assumption) | exact AH.none_put (AH.none_put (by assumption)) | (simp only [AH.blk_setTok, AH.tok_put] at *; first | assumption | exact AH.none_put (by assumption)))) | (refine AH.le_putM ?_ (by first | assumption | exact (AH.mp_putM_ne _ _ (by assumption)).trans (by assumption) | (simp only [AH.mp_put, AH.mp_setTok] at *; assumption)))))⟩
      · have c2' : ¬ ((sc.getD u 0 &&& m : Nat) : Int) = 0 := by omega
        simp only [hc, i64s_drop huf, u32s_drop hus, c1, e2, c2', e3, e4, hbb, F_poset_home, g_poset_home, go_sem, ↓tq_n, ↓tq_e, ↓tq_r, ↓bq_n, ↓bq_e, ↓bq_r, ↓rq_n, ↓rq_r, ↓rq_e]
        refine ⟨by rw [i64s_len]; omega, by rw [inR64]; omega, (u + 1, f.set u (s : Int), X ||| 2 ^ u), ⟨by omega, by omega, hmJ_yes hs1 hL hsu hvu hu hJ c1 c2⟩, by simp only; omega, ?_⟩
        have e5 : i64s (f.set u (s : Int)) = (i64s f).set u (AV.int IntKind.i64 (s : Int)) := by simp only [i64s, List.map_set]
        rw [e5]
        exact (GStep.forget (by repeat' first | exact EnvLe.nil _ | refine EnvLe.cons (AV.le.of_eq rfl) ?_ | refine EnvLe.cons (AV.le.undef _) ?_ | refine EnvLe.cons AV.le.unk ?_) (by repeat' first | exact AH.le.refl _ | assumption | (refine AH.le_put ?_ (by first | assumption | exact (AH.blk_put_ne _ _ (by assumption)).trans (by assumption) | exact AH.none_put (by assumption) | exact AH.none_put (AH.none_put (by assumption)) | (simp only [AH.blk_setTok, AH.tok_put] at *; first | assumption | exact AH.none_put (by assumption)))) | (refine AH.le_setTok ?_ (by first | assumption | exact (AH.blk_put_ne _ _ (by assumption)).trans (by assumption) | exact AH.none_put (by assumption) | exact AH.none_put (AH.none_put (by assumption)) | (simp only [AH.blk_setTok, AH.tok_put] at *; first | assumption | exact AH.none_put (by assumption)))) | (refine AH.le_putM ?_ (by first | assumption | exact (AH.mp_putM_ne _ _ (by assumption)).trans (by assumption) | (simp only [AH.mp_put, AH.mp_setTok] at *; assumption)))))
    · simp only [hc, i64s_drop huf, c1, F_poset_home, g_poset_home, go_sem, ↓tq_n, ↓tq_e, ↓tq_r, ↓bq_n, ↓bq_e, ↓bq_r, ↓rq_n, ↓rq_r, ↓rq_e]
      exact ⟨by rw [inR64]; omega, (u + 1, f, X), ⟨by omega, by omega, hmJ_no hs1 hL hsu hu hJ (fun hh => c1 hh.1)⟩, by simp only; omega, (GStep.forget (by repeat' first | exact EnvLe.nil _ | refine EnvLe.cons (AV.le.of_eq rfl) ?_ | refine EnvLe.cons (AV.le.undef _) ?_ | refine EnvLe.cons AV.le.unk ?_) (by repeat' first | exact AH.le.refl _ | assumption | (refine AH.le_put ?_ (by first | assumption | exact (AH.blk_put_ne _ _ (by assumption)).trans (by assumption) | exact AH.none_put (by assumption) | exact AH.none_put (AH.none_put (by assumption)) | (simp only [AH.blk_setTok, AH.tok_put] at *; first | assumption | exact AH.none_put (by assumption)))) | (refine AH.le_setTok ?_ (by first | assumption | exact (AH.blk_put_ne _ _ (by assumption)).trans (by assumption) | exact AH.none_put (by assumption) | exact AH.none_put (AH.none_put (by assumption)) | (simp only [AH.blk_setTok, AH.tok_put] at *; first | assumption | exact AH.none_put (by assumption)))) | (refine AH.le_putM ?_ (by first | assumption | exact (AH.mp_putM_ne _ _ (by assumption)).trans (by assumption) | (simp only [AH.mp_put, AH.mp_setTok] at *; assumption)))))⟩
  · have hu : u = n := by omega
    subst hu
    obtain ⟨Y, y1, y2, y3⟩ := bitu32_not hX hmv
    simp only [e1, y1, F_poset_home, g_poset_home, go_sem, ↓tq_n, ↓tq_e, ↓tq_r, ↓bq_n, ↓bq_e, ↓bq_r, ↓rq_n, ↓rq_r, ↓rq_e]
    obtain ⟨t1, t2⟩ := hmJ_end haf hs1 hJ (Y := Y) (fun y => by
      rw [y3, Bool.and_eq_true, Nat.testBit_two_pow]
      simp only [Bool.not_eq_true', decide_eq_false_iff_not]
      exact ⟨fun ⟨p, q⟩ => ⟨p, fun hh => q hh.symm⟩, fun ⟨p, q⟩ => ⟨p, fun hh => q hh.symm⟩⟩)
    exact ⟨by rw [inR64]; omega, (s + 1, f, Y), ⟨by omega, by omega, t1, t2, y2⟩, by simp only; omega, (GStep.forget (by repeat' first | exact EnvLe.nil _ | refine EnvLe.cons (AV.le.of_eq rfl) ?_ | refine EnvLe.cons (AV.le.undef _) ?_ | refine EnvLe.cons AV.le.unk ?_) (by repeat' first | exact AH.le.refl _ | assumption | (refine AH.le_put ?_ (by first | assumption | exact (AH.blk_put_ne _ _ (by assumption)).trans (by assumption) | exact AH.none_put (by assumption) | exact AH.none_put (AH.none_put (by assumption)) | (simp only [AH.blk_setTok, AH.tok_put] at *; first | assumption | exact AH.none_put (by assumption)))) | (refine AH.le_setTok ?_ (by first | assumption | exact (AH.blk_put_ne _ _ (by assumption)).trans (by assumption) | exact AH.none_put (by assumption) | exact AH.none_put (AH.none_put (by assumption)) | (simp only [AH.blk_setTok, AH.tok_put] at *; first | assumption | exact AH.none_put (by assumption)))) | (refine AH.le_putM ?_ (by first | assumption | exact (AH.mp_putM_ne _ _ (by assumption)).trans (by assumption) | (simp only [AH.mp_put, AH.mp_setTok] at *; assumption)))))⟩
end Go.Proofs.YtidmekdkfiljjaaGreat
namespace Go.Proofs.YtidmekdkfiljjaaGreat
open Go Go.Abs
set_option linter.unusedSimpArgs false
set_option linter.unusedVariables false
set_option maxRecDepth 20000

theorem cyP_succ (n : Nat) (a : List (Int × Int)) (best : Nat) : ∀ k at_, cyP n a best (k + 1) at_ = nxU n a best at_ (k + 1) :: cyP n a best k (nxU n a best at_ (k + 1)) := fun _ _ => rfl
noncomputable def cyV (n : Nat) (a : List (Int × Int)) : AV := if (cyS n a n).1 < 0 then .tup [.sl true 0 [] .full, I 7] else .tup [gl (i64s (nats ((cyS n a n).1.toNat :: cyP n a (cyS n a n).1.toNat ((cyS n a n).2.toNat - 1) (cyS n a n).1.toNat))) (cyS n a n).2.toNat .unk, I 0]
set_option maxHeartbeats 4000000 in
theorem r_poset_Cycle (n : Nat) (nl : Bool) (a : List (Int × Int)) (tl : Tail) (hal : a.length ≤ 100000) (hd : P.Dg n a) (h : AH) : RCall Tryz.prog n_poset_Cycle [I n, .sl nl a.length (prs a) tl] h (cyV n a) := by
  refine RCall.of hm cF_poset_Cycle (by simp [g_poset_Cycle]) fun hw h' hl => ?_
  have hn : n ≤ 24 := by have := hd.2.1; omega
  have ha := hd.arc
  have haf : ∀ k, k < a.length → fr a k < n := fun k hk => by have := ha k hk; unfold Arc at this; unfold fr; omega
  simp only [F_poset_Cycle, g_poset_Cycle, go_sem, ↓tq_n, ↓tq_e, ↓tq_r, ↓bq_n, ↓bq_e, ↓bq_r, ↓rq_n, ↓rq_r, ↓rq_e]
  refine CallG.mk (P.r_poset_Valid n nl a tl _) ?_
  rw [decide_eq_true hd]
  simp only [F_poset_Cycle, g_poset_Cycle, go_sem, ↓tq_n, ↓tq_e, ↓tq_r, ↓bq_n, ↓bq_e, ↓bq_r, ↓rq_n, ↓rq_r, ↓rq_e]
  refine CallS.mk (P.s_poset_next n hn nl a tl ha hal _) fun r h'' hr => ?_
  obtain ⟨b0, hb0, rfl, rfl⟩ := hr
  simp only [F_poset_Cycle, g_poset_Cycle, go_sem, ↓tq_n, ↓tq_e, ↓tq_r, ↓bq_n, ↓bq_e, ↓bq_r, ↓rq_n, ↓rq_r, ↓rq_e]
  have hsp := fun i => cyS_spec (n := n) haf i
  have hle0 : h'.le (h'.put b0 (u32s (nxt n a a.length))) := AH.le_new _ _ hb0
  refine ⟨by rw [inR64]; omega, ?_⟩
  refine awp_loop (α := Nat × AH) (fun y => [(0, I n), (1, .sl nl a.length (prs a) tl), (6, .msl b0 0 n (some n)), (7, I (cyS n a y.1).1), (8, I (cyS n a y.1).2), (24, I n), (25, I y.1)]) (fun y => y.2) (fun y => y.1 ≤ n ∧ h'.le y.2 ∧ y.2.blk b0 = some (u32s (nxt n a a.length))) (fun y => n - y.1) (0, h'.put b0 (u32s (nxt n a a.length))) ⟨Nat.zero_le _, hle0, AH.blk_put _ _ _⟩ (by simp only [cyS]; exact (GStep.forget (by repeat' first | exact EnvLe.nil _ | refine EnvLe.cons (AV.le.of_eq rfl) ?_ | refine EnvLe.cons (AV.le.undef _) ?_ | refine EnvLe.cons AV.le.unk ?_) (by repeat' first | exact AH.le.refl _ | assumption | (refine AH.le_put ?_ (by first | assumption | exact (AH.blk_put_ne _ _ (by assumption)).trans (by assumption) | exact AH.none_put (by assumption) | exact AH.none_put (AH.none_put (by assumption)) | (simp only [AH.blk_setTok, AH.tok_put] at *; first | assumption | exact AH.none_put (by assumption)))) | (refine AH.le_setTok ?_ (by first | assumption | exact (AH.blk_put_ne _ _ (by assumption)).trans (by assumption) | exact AH.none_put (by assumption) | exact AH.none_put (AH.none_put (by assumption)) | (simp only [AH.blk_setTok, AH.tok_put] at *; first | assumption | exact AH.none_put (by assumption)))) | (refine AH.le_putM ?_ (by first | assumption | exact (AH.mp_putM_ne _ _ (by assumption)).trans (by assumption) | (simp only [AH.mp_put, AH.mp_setTok] at *; assumption)))))) fun y hy => .of_vg hm ?_
  obtain ⟨i, g⟩ := y
  obtain ⟨h1, hg1, hg2⟩ := hy
  simp only at h1 hg1 hg2 ⊢
  by_cases h2 : i < n
  · have hc : (i : Int) < (n : Int) := by omega
    simp only [hc, F_poset_Cycle, g_poset_Cycle, go_sem, ↓tq_n, ↓tq_e, ↓tq_r, ↓bq_n, ↓bq_e, ↓bq_r, ↓rq_n, ↓rq_r, ↓rq_e]
    refine CallS.mk (s_poset_home n hn a ha hal i h2 b0 g hg2) fun r g' hr => ?_
    obtain ⟨b, hb, rfl, rfl⟩ := hr
    have hbb : b0 ≠ b := fun hh => by subst hh; rw [hg2] at hb; cases hb
    have hil : i < (hmL n a i).length := by rw [hmL_len]; exact h2
    have hgt := hmL_get (n := n) (a := a) (v := i) h2
    have hs1 : cyS n a (i + 1) = if 0 < hmN a i i ∧ (hmN a i i : Int) < (cyS n a i).2 then ((i : Int), (hmN a i i : Int)) else cyS n a i := rfl
    have fin : h'.le (g.put b (i64s (hmL n a i))) ∧ (g.put b (i64s (hmL n a i))).blk b0 = some (u32s (nxt n a a.length)) := ⟨hg1.trans (AH.le_new _ _ hb), (AH.blk_put_ne _ _ hbb).trans hg2⟩
    by_cases c1 : 0 < hmN a i i
    · have c1' : (0 : Int) < (hmN a i i : Int) := by omega
      by_cases c2 : (hmN a i i : Int) < (cyS n a i).2
      · rw [if_pos ⟨c1, c2⟩] at hs1
        simp only [hc, i64s_drop hil, hgt, c1', c2, F_poset_Cycle, g_poset_Cycle, go_sem, ↓tq_n, ↓tq_e, ↓tq_r, ↓bq_n, ↓bq_e, ↓bq_r, ↓rq_n, ↓rq_r, ↓rq_e]
        refine ⟨by rw [inR64]; omega, (i + 1, g.put b (i64s (hmL n a i))), ⟨by simp only; omega, fin⟩, by simp only; omega, ?_⟩
        rw [hs1]
        exact (GStep.forget (by repeat' first | exact EnvLe.nil _ | refine EnvLe.cons (AV.le.of_eq rfl) ?_ | refine EnvLe.cons (AV.le.undef _) ?_ | refine EnvLe.cons AV.le.unk ?_) (by repeat' first | exact AH.le.refl _ | assumption | (refine AH.le_put ?_ (by first | assumption | exact (AH.blk_put_ne _ _ (by assumption)).trans (by assumption) | exact AH.none_put (by assumption) | exact AH.none_put (AH.none_put (by assumption)) | (simp only [AH.blk_setTok, AH.tok_put] at *; first | assumption | exact AH.none_put (by assumption)))) | (refine AH.le_setTok ?_ (by first | assumption | exact (AH.blk_put_ne _ _ (by assumption)).trans (by assumption) | exact AH.none_put (by assumption) | exact AH.none_put (AH.none_put (by assumption)) | (simp only [AH.blk_setTok, AH.tok_put] at *; first | assumption | exact AH.none_put (by assumption)))) | (refine AH.le_putM ?_ (by first | assumption | exact (AH.mp_putM_ne _ _ (by assumption)).trans (by assumption) | (simp only [AH.mp_put, AH.mp_setTok] at *; assumption)))))
      · rw [if_neg (fun hh => c2 hh.2)] at hs1
        simp only [hc, i64s_drop hil, hgt, c1', c2, F_poset_Cycle, g_poset_Cycle, go_sem, ↓tq_n, ↓tq_e, ↓tq_r, ↓bq_n, ↓bq_e, ↓bq_r, ↓rq_n, ↓rq_r, ↓rq_e]
        refine ⟨by rw [inR64]; omega, (i + 1, g.put b (i64s (hmL n a i))), ⟨by simp only; omega, fin⟩, by simp only; omega, ?_⟩
        rw [hs1]
        exact (GStep.forget (by repeat' first | exact EnvLe.nil _ | refine EnvLe.cons (AV.le.of_eq rfl) ?_ | refine EnvLe.cons (AV.le.undef _) ?_ | refine EnvLe.cons AV.le.unk ?_) (by repeat' first | exact AH.le.refl _ | assumption | (refine AH.le_put ?_ (by first | assumption | exact (AH.blk_put_ne _ _ (by assumption)).trans (by assumption) | exact AH.none_put (by assumption) | exact AH.none_put (AH.none_put (by assumption)) | (simp only [AH.blk_setTok, AH.tok_put] at *; first | assumption | exact AH.none_put (by assumption)))) | (refine AH.le_setTok ?_ (by first | assumption | exact (AH.blk_put_ne _ _ (by assumption)).trans (by assumption) | exact AH.none_put (by assumption) | exact AH.none_put (AH.none_put (by assumption)) | (simp only [AH.blk_setTok, AH.tok_put] at *; first | assumption | exact AH.none_put (by assumption)))) | (refine AH.le_putM ?_ (by first | assumption | exact (AH.mp_putM_ne _ _ (by assumption)).trans (by assumption) | (simp only [AH.mp_put, AH.mp_setTok] at *; assumption)))))
    · have c1' : ¬ (0 : Int) < (hmN a i i : Int) := by omega
      rw [if_neg (fun hh => c1 hh.1)] at hs1
      simp only [hc, i64s_drop hil, hgt, c1', F_poset_Cycle, g_poset_Cycle, go_sem, ↓tq_n, ↓tq_e, ↓tq_r, ↓bq_n, ↓bq_e, ↓bq_r, ↓rq_n, ↓rq_r, ↓rq_e]
      refine ⟨by rw [inR64]; omega, (i + 1, g.put b (i64s (hmL n a i))), ⟨by simp only; omega, fin⟩, by simp only; omega, ?_⟩
      rw [hs1]
      exact (GStep.forget (by repeat' first | exact EnvLe.nil _ | refine EnvLe.cons (AV.le.of_eq rfl) ?_ | refine EnvLe.cons (AV.le.undef _) ?_ | refine EnvLe.cons AV.le.unk ?_) (by repeat' first | exact AH.le.refl _ | assumption | (refine AH.le_put ?_ (by first | assumption | exact (AH.blk_put_ne _ _ (by assumption)).trans (by assumption) | exact AH.none_put (by assumption) | exact AH.none_put (AH.none_put (by assumption)) | (simp only [AH.blk_setTok, AH.tok_put] at *; first | assumption | exact AH.none_put (by assumption)))) | (refine AH.le_setTok ?_ (by first | assumption | exact (AH.blk_put_ne _ _ (by assumption)).trans (by assumption) | exact AH.none_put (by assumption) | exact AH.none_put (AH.none_put (by assumption)) | (simp only [AH.blk_setTok, AH.tok_put] at *; first | assumption | exact AH.none_put (by assumption)))) | (refine AH.le_putM ?_ (by first | assumption | exact (AH.mp_putM_ne _ _ (by assumption)).trans (by assumption) | (simp only [AH.mp_put, AH.mp_setTok] at *; assumption)))))
  have h2 : i = n := by omega
  subst h2
  rcases cyS_gi (n := i) haf with ⟨z1, z2⟩ | ⟨v, gi, z1, z2, z3, z4⟩
  · have c3 : (cyS i a i).1 < 0 := by omega
    simp only [c3, F_poset_Cycle, g_poset_Cycle, go_sem, ↓tq_n, ↓tq_e, ↓tq_r, ↓bq_n, ↓bq_e, ↓bq_r, ↓rq_n, ↓rq_r, ↓rq_e]
    exact ret_hb hg1 (by unfold cyV; rw [if_pos c3])
  have hv : cyV i a = .tup [gl (i64s (nats (v :: cyP i a v (gi - 1) v))) gi .unk, I 0] := by
    unfold cyV
    rw [z2]
    simp only [Int.toNat_natCast]
    rw [if_neg (by omega)]
  have c3 : ¬ (v : Int) < 0 := by omega
  have hgi : 1 ≤ gi := z4.1
  have hlev : lev1 a v v gi := by
    rcases hmN_spec a v v with ⟨h1, _⟩ | h1
    · omega
    · rwa [z3] at h1
  have hgn : gi ≤ i := lev1_le haf z1 hlev
  rw [z2]
  simp only [c3, F_poset_Cycle, g_poset_Cycle, go_sem, ↓tq_n, ↓tq_e, ↓tq_r, ↓bq_n, ↓bq_e, ↓bq_r, ↓rq_n, ↓rq_r, ↓rq_e]
  refine CallS.mk (s_poset_home i hn a ha hal v z1 b0 g hg2) fun r g' hr => ?_
  obtain ⟨b, hb, rfl, rfl⟩ := hr
  have hbb : b0 ≠ b := fun hh => by subst hh; rw [hg2] at hb; cases hb
  have fin : h'.le (g.put b (i64s (hmL i a v))) := hg1.trans (AH.le_new _ _ hb)
  have hB0 : (g.put b (i64s (hmL i a v))).blk b0 = some (u32s (nxt i a a.length)) := (AH.blk_put_ne _ _ hbb).trans hg2
  have hB : (g.put b (i64s (hmL i a v))).blk b = some (i64s (hmL i a v)) := AH.blk_put _ _ _
  generalize g.put b (i64s (hmL i a v)) = G at fin hB0 hB ⊢
  have hsl : (nxt i a a.length).length = i := nxt_len _ _ _
  have hsm : ∀ z, (nxt i a a.length).getD z 0 < 4294967296 := nxt_sm hn (fun k hk => (ha k hk).2.2.2) a.length (Nat.le_refl _)
  have hsc := fun u => sc_nxt ha u
  generalize nxt i a a.length = sc at hB0 hsl hsm hsc
  simp only [F_poset_Cycle, g_poset_Cycle, go_sem, ↓tq_n, ↓tq_e, ↓tq_r, ↓bq_n, ↓bq_e, ↓bq_r, ↓rq_n, ↓rq_r, ↓rq_e]
  refine awp_tok 12 1 (nl := false) (n := 1) (cs := [I v]) rfl fun t ht => ?_
  have ht0 := AH.tnone_of_le fin ht
  refine awp_loop (α := List Nat × Nat) (fun y => [(0, I i), (6, .msl b0 0 i (some i)), (7, I v), (8, I gi), (11, .msl b 0 i (some i)), (12, gl (i64s (nats (y.1 ++ [y.2]))) (y.1.length + 1) (.tok t))]) (fun y => G.setTok t (y.1.length + 1) 1) (fun y => y.1.length + 1 ≤ gi ∧ y.2 < i ∧ v :: cyP i a v (gi - 1) v = y.1 ++ y.2 :: cyP i a v (gi - (y.1.length + 1)) y.2 ∧ lev1 a v y.2 (gi - y.1.length)) (fun y => gi - y.1.length) ([], v) ⟨by simpa using hgi, z1, by simp, by simpa using hlev⟩ (GStep.forget (by repeat' first | exact EnvLe.nil _ | refine EnvLe.cons (AV.le.of_eq rfl) ?_ | refine EnvLe.cons (AV.le.undef _) ?_ | refine EnvLe.cons AV.le.unk ?_) (by repeat' first | exact AH.le.refl _ | assumption | (refine AH.le_put ?_ (by first | assumption | exact (AH.blk_put_ne _ _ (by assumption)).trans (by assumption) | exact AH.none_put (by assumption) | exact AH.none_put (AH.none_put (by assumption)) | (simp only [AH.blk_setTok, AH.tok_put] at *; first | assumption | exact AH.none_put (by assumption)))) | (refine AH.le_setTok ?_ (by first | assumption | exact (AH.blk_put_ne _ _ (by assumption)).trans (by assumption) | exact AH.none_put (by assumption) | exact AH.none_put (AH.none_put (by assumption)) | (simp only [AH.blk_setTok, AH.tok_put] at *; first | assumption | exact AH.none_put (by assumption)))) | (refine AH.le_putM ?_ (by first | assumption | exact (AH.mp_putM_ne _ _ (by assumption)).trans (by assumption) | (simp only [AH.mp_put, AH.mp_setTok] at *; assumption))))) fun y hy => .of_vg hm ?_
  obtain ⟨out, at_⟩ := y
  obtain ⟨k1, k2, k3, k4⟩ := hy
  simp only at k1 k2 k3 k4 ⊢
  by_cases c4 : out.length + 1 < gi
  case neg =>
    have c5 : gi = out.length + 1 := by omega
    have c4' : ¬ ((out.length + 1 : Nat) : Int) < (gi : Int) := by omega
    simp only [c4', F_poset_Cycle, g_poset_Cycle, go_sem, ↓tq_n, ↓tq_e, ↓tq_r, ↓bq_n, ↓bq_e, ↓bq_r, ↓rq_n, ↓rq_r, ↓rq_e]
    have e5 : gi - (out.length + 1) = 0 := by omega
    rw [e5] at k3
    refine ret_le (by repeat' first | exact AH.le.refl _ | assumption | (refine AH.le_put ?_ (by first | assumption | exact (AH.blk_put_ne _ _ (by assumption)).trans (by assumption) | exact AH.none_put (by assumption) | exact AH.none_put (AH.none_put (by assumption)) | (simp only [AH.blk_setTok, AH.tok_put] at *; first | assumption | exact AH.none_put (by assumption)))) | (refine AH.le_setTok ?_ (by first | assumption | exact (AH.blk_put_ne _ _ (by assumption)).trans (by assumption) | exact AH.none_put (by assumption) | exact AH.none_put (AH.none_put (by assumption)) | (simp only [AH.blk_setTok, AH.tok_put] at *; first | assumption | exact AH.none_put (by assumption)))) | (refine AH.le_putM ?_ (by first | assumption | exact (AH.mp_putM_ne _ _ (by assumption)).trans (by assumption) | (simp only [AH.mp_put, AH.mp_setTok] at *; assumption)))) ?_
    rw [hv, k3, c5]
    exact .tup2 .glU (.refl _)
  have c4' : ((out.length + 1 : Nat) : Int) < (gi : Int) := by omega
  obtain ⟨k, hk⟩ : ∃ k, gi - out.length = k + 1 := ⟨gi - out.length - 1, by omega⟩
  rw [hk] at k4
  obtain ⟨n1, n2, n3, n4⟩ := nxU_spec haf (show 1 ≤ k by omega) k4
  have hol : out.length < (nats (out ++ [at_])).length := by rw [nats_len]; simp
  have hog : (nats (out ++ [at_])).getD out.length 0 = (at_ : Int) := by simp [nats, List.getD]
  have hix : ((out.length + 1 : Nat) : Int) - 1 = (out.length : Int) := by omega
  simp only [c4', hix, i64s_drop hol, hog, F_poset_Cycle, g_poset_Cycle, go_sem, ↓tq_n, ↓tq_e, ↓tq_r, ↓bq_n, ↓bq_e, ↓bq_r, ↓rq_n, ↓rq_r, ↓rq_e]
  refine ⟨by rw [inR64]; omega, by omega, by rw [inR64]; omega, ?_⟩
  refine awp_loop (fun u : Nat => [(0, I i), (6, .msl b0 0 i (some i)), (7, I v), (8, I gi), (11, .msl b 0 i (some i)), (12, gl (i64s (nats (out ++ [at_]))) (out.length + 1) (.tok t)), (13, I at_), (14, I u)]) (fun _ => G.setTok t (out.length + 1) 1) (fun u => (v + 1 ≤ u ∧ u ≤ i) ∧ ∀ z, z < u → nxP a v at_ k z = false) (fun u => i - u) (v + 1) ⟨by omega, fun z hz => by unfold nxP; rw [decide_eq_false (by omega)]; rfl⟩ (GStep.forget (by repeat' first | exact EnvLe.nil _ | refine EnvLe.cons (AV.le.of_eq rfl) ?_ | refine EnvLe.cons (AV.le.undef _) ?_ | refine EnvLe.cons AV.le.unk ?_) (by repeat' first | exact AH.le.refl _ | assumption | (refine AH.le_put ?_ (by first | assumption | exact (AH.blk_put_ne _ _ (by assumption)).trans (by assumption) | exact AH.none_put (by assumption) | exact AH.none_put (AH.none_put (by assumption)) | (simp only [AH.blk_setTok, AH.tok_put] at *; first | assumption | exact AH.none_put (by assumption)))) | (refine AH.le_setTok ?_ (by first | assumption | exact (AH.blk_put_ne _ _ (by assumption)).trans (by assumption) | exact AH.none_put (by assumption) | exact AH.none_put (AH.none_put (by assumption)) | (simp only [AH.blk_setTok, AH.tok_put] at *; first | assumption | exact AH.none_put (by assumption)))) | (refine AH.le_putM ?_ (by first | assumption | exact (AH.mp_putM_ne _ _ (by assumption)).trans (by assumption) | (simp only [AH.mp_put, AH.mp_setTok] at *; assumption))))) fun u hu => .of_vg hm ?_
  obtain ⟨⟨u0, u1⟩, u2⟩ := hu
  by_cases c6 : u < i
  case neg => exact absurd (u2 _ (by omega : nxU i a v at_ k < u)) (by rw [n2]; exact Bool.noConfusion)
  have c6' : (u : Int) < (i : Int) := by omega
  have has : at_ < sc.length := by omega
  simp only [c6', u32s_drop has, hB0, F_poset_Cycle, g_poset_Cycle, go_sem, ↓tq_n, ↓tq_e, ↓tq_r, ↓bq_n, ↓bq_e, ↓bq_r, ↓rq_n, ↓rq_r, ↓rq_e]
  refine ⟨by omega, CallG.mk (P.r_poset_has (hsm at_) (by omega) _) ?_⟩
  have hnx : nxP a v at_ k u = true ↔ (sc.getD at_ 0).testBit u = true ∧ hmN a v u = k := by
    unfold nxP
    rw [Bool.and_eq_true, Bool.and_eq_true, decide_eq_true_iff, decide_eq_true_iff, decide_eq_true_iff, hsc at_ u]
    exact ⟨fun hh => hh.2, fun hh => ⟨by omega, hh⟩⟩
  have hno : ¬ ((sc.getD at_ 0).testBit u = true ∧ hmN a v u = k) → ∀ z, z < u + 1 → nxP a v at_ k z = false := fun hh z hz => by
    rcases lt_succ_cases hz with h5 | rfl
    · exact u2 z h5
    · exact Bool.eq_false_iff.2 fun h6 => hh (hnx.1 h6)
  cases hb1 : (sc.getD at_ 0).testBit u with
  | false =>
    simp only [F_poset_Cycle, g_poset_Cycle, go_sem, ↓tq_n, ↓tq_e, ↓tq_r, ↓bq_n, ↓bq_e, ↓bq_r, ↓rq_n, ↓rq_r, ↓rq_e]
    exact ⟨by rw [inR64]; omega, u + 1, ⟨by omega, hno (fun hh => by rw [hb1] at hh; cases hh.1)⟩, by omega, (GStep.forget (by repeat' first | exact EnvLe.nil _ | refine EnvLe.cons (AV.le.of_eq rfl) ?_ | refine EnvLe.cons (AV.le.undef _) ?_ | refine EnvLe.cons AV.le.unk ?_) (by repeat' first | exact AH.le.refl _ | assumption | (refine AH.le_put ?_ (by first | assumption | exact (AH.blk_put_ne _ _ (by assumption)).trans (by assumption) | exact AH.none_put (by assumption) | exact AH.none_put (AH.none_put (by assumption)) | (simp only [AH.blk_setTok, AH.tok_put] at *; first | assumption | exact AH.none_put (by assumption)))) | (refine AH.le_setTok ?_ (by first | assumption | exact (AH.blk_put_ne _ _ (by assumption)).trans (by assumption) | exact AH.none_put (by assumption) | exact AH.none_put (AH.none_put (by assumption)) | (simp only [AH.blk_setTok, AH.tok_put] at *; first | assumption | exact AH.none_put (by assumption)))) | (refine AH.le_putM ?_ (by first | assumption | exact (AH.mp_putM_ne _ _ (by assumption)).trans (by assumption) | (simp only [AH.mp_put, AH.mp_setTok] at *; assumption)))))⟩
  | true =>
    have hul : u < (hmL i a v).length := by rw [hmL_len]; exact c6
    have hug := hmL_get (n := i) (a := a) (v := v) c6
    have hgk : (gi : Int) - ((out.length + 1 : Nat) : Int) = (k : Int) := by omega
    by_cases c7 : hmN a v u = k
    · have c7' : (hmN a v u : Int) = (k : Int) := by omega
      have hu : u = nxU i a v at_ k := by
        have h5 := hnx.2 ⟨hb1, c7⟩
        rcases Nat.lt_trichotomy u (nxU i a v at_ k) with h6 | h6 | h6
        · rw [n3 u h6] at h5; cases h5
        · exact h6
        · rw [u2 _ h6] at n2; cases n2
      simp only [hB, i64s_drop hul, hug, hgk, c7', F_poset_Cycle, g_poset_Cycle, go_sem, ↓tq_n, ↓tq_e, ↓tq_r, ↓bq_n, ↓bq_e, ↓bq_r, ↓rq_n, ↓rq_r, ↓rq_e]
      refine ⟨by omega, by rw [inR64]; omega, by rw [i64s_len, nats_len]; simp, by omega, by omega, (out ++ [at_], u), ⟨by simp; omega, c6, ?_, ?_⟩, by simp; omega, ?_⟩
      · obtain ⟨k', rfl⟩ : ∃ k', k = k' + 1 := ⟨k - 1, by omega⟩
        have e6 : gi - (out.length + 1) = k' + 1 := by omega
        have e7 : gi - ((out ++ [at_]).length + 1) = k' := by simp; omega
        simp only [e7]
        rw [k3, e6, cyP_succ, ← hu, List.append_assoc]
        rfl
      · have e8 : gi - (out ++ [at_]).length = k := by simp; omega
        simp only [e8]
        rw [hu]; exact n4
      · simp only [nats_append, i64s_append, List.length_append]
        exact (GStep.forget (by repeat' first | exact EnvLe.nil _ | refine EnvLe.cons (AV.le.of_eq rfl) ?_ | refine EnvLe.cons (AV.le.undef _) ?_ | refine EnvLe.cons AV.le.unk ?_) (by repeat' first | exact AH.le.refl _ | assumption | (refine AH.le_put ?_ (by first | assumption | exact (AH.blk_put_ne _ _ (by assumption)).trans (by assumption) | exact AH.none_put (by assumption) | exact AH.none_put (AH.none_put (by assumption)) | (simp only [AH.blk_setTok, AH.tok_put] at *; first | assumption | exact AH.none_put (by assumption)))) | (refine AH.le_setTok ?_ (by first | assumption | exact (AH.blk_put_ne _ _ (by assumption)).trans (by assumption) | exact AH.none_put (by assumption) | exact AH.none_put (AH.none_put (by assumption)) | (simp only [AH.blk_setTok, AH.tok_put] at *; first | assumption | exact AH.none_put (by assumption)))) | (refine AH.le_putM ?_ (by first | assumption | exact (AH.mp_putM_ne _ _ (by assumption)).trans (by assumption) | (simp only [AH.mp_put, AH.mp_setTok] at *; assumption)))))
    · have c7' : ¬ (hmN a v u : Int) = (k : Int) := by omega
      simp only [hB, i64s_drop hul, hug, hgk, c7', F_poset_Cycle, g_poset_Cycle, go_sem, ↓tq_n, ↓tq_e, ↓tq_r, ↓bq_n, ↓bq_e, ↓bq_r, ↓rq_n, ↓rq_r, ↓rq_e]
      exact ⟨by omega, by rw [inR64]; omega, by rw [inR64]; omega, u + 1, ⟨by omega, hno (fun hh => c7 hh.2)⟩, by omega, (GStep.forget (by repeat' first | exact EnvLe.nil _ | refine EnvLe.cons (AV.le.of_eq rfl) ?_ | refine EnvLe.cons (AV.le.undef _) ?_ | refine EnvLe.cons AV.le.unk ?_) (by repeat' first | exact AH.le.refl _ | assumption | (refine AH.le_put ?_ (by first | assumption | exact (AH.blk_put_ne _ _ (by assumption)).trans (by assumption) | exact AH.none_put (by assumption) | exact AH.none_put (AH.none_put (by assumption)) | (simp only [AH.blk_setTok, AH.tok_put] at *; first | assumption | exact AH.none_put (by assumption)))) | (refine AH.le_setTok ?_ (by first | assumption | exact (AH.blk_put_ne _ _ (by assumption)).trans (by assumption) | exact AH.none_put (by assumption) | exact AH.none_put (AH.none_put (by assumption)) | (simp only [AH.blk_setTok, AH.tok_put] at *; first | assumption | exact AH.none_put (by assumption)))) | (refine AH.le_putM ?_ (by first | assumption | exact (AH.mp_putM_ne _ _ (by assumption)).trans (by assumption) | (simp only [AH.mp_put, AH.mp_setTok] at *; assumption)))))⟩
end Go.Proofs.YtidmekdkfiljjaaGreat
