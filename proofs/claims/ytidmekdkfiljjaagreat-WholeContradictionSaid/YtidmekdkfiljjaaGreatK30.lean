/- Calls of functions of this seat's program: checks, costs of sets, repairs, the table. No condition. -/
import Derived.Test.YtidmekdkfiljjaaGreatK28
import Derived.Test.YtidmekdkfiljjaaGreatK25
import Derived.Test.YtidmekdkfiljjaaGreatK27
import Derived.Test.YtidmekdkfiljjaaGreatK29
namespace Go.Proofs.YtidmekdkfiljjaaGreat
open Go Go.Abs
set_option linter.unusedSimpArgs false
set_option linter.unusedVariables false
set_option maxRecDepth 20000

theorem r_slices_IndexFunc_int (nl : Bool) (e : List Int) (tl : Tail) (f : FuncId) (caps : List AV) (p : Nat → Bool) (h : AH) (hp : ∀ i, i < e.length → RCall Tryz.prog f (I (e.getD i 0) :: caps) h (.bool (p i))) :
    RCall Tryz.prog n_slices_IndexFunc_int [.sl nl e.length (i64s e) tl, .fn f caps] h (I (findI p e.length)) := by
  refine RCall.of hm cF_slices_IndexFunc_int (by simp [g_slices_IndexFunc_int]) fun hw h' hl => ?_
  have hx := wf_len (hw _ (.head _))
  simp only [F_slices_IndexFunc_int, g_slices_IndexFunc_int, go_sem, ↓tq_n, ↓tq_e, ↓tq_r, ↓bq_n, ↓bq_e, ↓bq_r, ↓rq_n, ↓rq_r, ↓rq_e]
  refine awp_loop (fun i : Nat => [(0, .sl nl e.length (i64s e) tl), (1, .fn f caps), (7, I e.length), (8, I i)]) (fun _ => h') (fun i => i ≤ e.length ∧ ∀ j, j < i → p j = false) (fun i => e.length - i) 0 ⟨by omega, by omega⟩ (GStep.forget (by repeat' first | exact EnvLe.nil _ | refine EnvLe.cons (AV.le.of_eq rfl) ?_ | refine EnvLe.cons (AV.le.undef _) ?_ | refine EnvLe.cons AV.le.unk ?_) (by repeat' first | exact AH.le.refl _ | assumption | (refine AH.le_put ?_ (by first | assumption | exact (AH.blk_put_ne _ _ (by assumption)).trans (by assumption) | exact AH.none_put (by assumption) | exact AH.none_put (AH.none_put (by assumption)) | (simp only [AH.blk_setTok, AH.tok_put] at *; first | assumption | exact AH.none_put (by assumption)))) | (refine AH.le_setTok ?_ (by first | assumption | exact (AH.blk_put_ne _ _ (by assumption)).trans (by assumption) | exact AH.none_put (by assumption) | exact AH.none_put (AH.none_put (by assumption)) | (simp only [AH.blk_setTok, AH.tok_put] at *; first | assumption | exact AH.none_put (by assumption)))) | (refine AH.le_putM ?_ (by first | assumption | exact (AH.mp_putM_ne _ _ (by assumption)).trans (by assumption) | (simp only [AH.mp_put, AH.mp_setTok] at *; assumption))))) fun i hi => .of_vg hm ?_
  obtain ⟨h1, h2⟩ := hi
  simp only [F_slices_IndexFunc_int, g_slices_IndexFunc_int, go_sem, ↓tq_n, ↓tq_e, ↓tq_r, ↓bq_n, ↓bq_e, ↓bq_r, ↓rq_n, ↓rq_r, ↓rq_e]
  refine ⟨fun hc => ?_, fun hc => ?_⟩
  · have h3 : i < e.length := by omega
    simp only [i64s_drop h3, F_slices_IndexFunc_int, g_slices_IndexFunc_int, go_sem, ↓tq_n, ↓tq_e, ↓tq_r, ↓bq_n, ↓bq_e, ↓bq_r, ↓rq_n, ↓rq_r, ↓rq_e]
    refine ⟨by omega, CallG.mk ((hp i h3).leB hl) ?_⟩
    cases hpi : p i
    · simp only [F_slices_IndexFunc_int, g_slices_IndexFunc_int, go_sem, ↓tq_n, ↓tq_e, ↓tq_r, ↓bq_n, ↓bq_e, ↓bq_r, ↓rq_n, ↓rq_r, ↓rq_e]
      exact ⟨by rw [inR64]; omega, i + 1, ⟨by omega, fun j hj => by rcases Nat.lt_succ_iff_lt_or_eq.1 hj with h | rfl; exact h2 j h; exact hpi⟩, by omega, (GStep.forget (by repeat' first | exact EnvLe.nil _ | refine EnvLe.cons (AV.le.of_eq rfl) ?_ | refine EnvLe.cons (AV.le.undef _) ?_ | refine EnvLe.cons AV.le.unk ?_) (by repeat' first | exact AH.le.refl _ | assumption | (refine AH.le_put ?_ (by first | assumption | exact (AH.blk_put_ne _ _ (by assumption)).trans (by assumption) | exact AH.none_put (by assumption) | exact AH.none_put (AH.none_put (by assumption)) | (simp only [AH.blk_setTok, AH.tok_put] at *; first | assumption | exact AH.none_put (by assumption)))) | (refine AH.le_setTok ?_ (by first | assumption | exact (AH.blk_put_ne _ _ (by assumption)).trans (by assumption) | exact AH.none_put (by assumption) | exact AH.none_put (AH.none_put (by assumption)) | (simp only [AH.blk_setTok, AH.tok_put] at *; first | assumption | exact AH.none_put (by assumption)))) | (refine AH.le_putM ?_ (by first | assumption | exact (AH.mp_putM_ne _ _ (by assumption)).trans (by assumption) | (simp only [AH.mp_put, AH.mp_setTok] at *; assumption)))))⟩
    · simp only [F_slices_IndexFunc_int, g_slices_IndexFunc_int, go_sem, ↓tq_n, ↓tq_e, ↓tq_r, ↓bq_n, ↓bq_e, ↓bq_r, ↓rq_n, ↓rq_r, ↓rq_e]
      refine ret_hb (by repeat' first | exact AH.le.refl _ | assumption | (refine AH.le_put ?_ (by first | assumption | exact (AH.blk_put_ne _ _ (by assumption)).trans (by assumption) | exact AH.none_put (by assumption) | exact AH.none_put (AH.none_put (by assumption)) | (simp only [AH.blk_setTok, AH.tok_put] at *; first | assumption | exact AH.none_put (by assumption)))) | (refine AH.le_setTok ?_ (by first | assumption | exact (AH.blk_put_ne _ _ (by assumption)).trans (by assumption) | exact AH.none_put (by assumption) | exact AH.none_put (AH.none_put (by assumption)) | (simp only [AH.blk_setTok, AH.tok_put] at *; first | assumption | exact AH.none_put (by assumption)))) | (refine AH.le_putM ?_ (by first | assumption | exact (AH.mp_putM_ne _ _ (by assumption)).trans (by assumption) | (simp only [AH.mp_put, AH.mp_setTok] at *; assumption)))) ?_
      rw [findI_at hpi h2 h3]
  · have h3 : i = e.length := by omega
    subst h3
    refine ret_hb (by repeat' first | exact AH.le.refl _ | assumption | (refine AH.le_put ?_ (by first | assumption | exact (AH.blk_put_ne _ _ (by assumption)).trans (by assumption) | exact AH.none_put (by assumption) | exact AH.none_put (AH.none_put (by assumption)) | (simp only [AH.blk_setTok, AH.tok_put] at *; first | assumption | exact AH.none_put (by assumption)))) | (refine AH.le_setTok ?_ (by first | assumption | exact (AH.blk_put_ne _ _ (by assumption)).trans (by assumption) | exact AH.none_put (by assumption) | exact AH.none_put (AH.none_put (by assumption)) | (simp only [AH.blk_setTok, AH.tok_put] at *; first | assumption | exact AH.none_put (by assumption)))) | (refine AH.le_putM ?_ (by first | assumption | exact (AH.mp_putM_ne _ _ (by assumption)).trans (by assumption) | (simp only [AH.mp_put, AH.mp_setTok] at *; assumption)))) ?_
    rw [findI_neg h2]
theorem r_slices_ContainsFunc_int (nl : Bool) (e : List Int) (tl : Tail) (f : FuncId) (caps : List AV) (p : Nat → Bool) (h : AH) (hp : ∀ i, i < e.length → RCall Tryz.prog f (I (e.getD i 0) :: caps) h (.bool (p i))) :
    RCall Tryz.prog n_slices_ContainsFunc_int [.sl nl e.length (i64s e) tl, .fn f caps] h (.bool ((List.range e.length).any p)) := by
  refine RCall.of hm cF_slices_ContainsFunc_int (by simp [g_slices_ContainsFunc_int]) fun hw h' hl => ?_
  simp only [F_slices_ContainsFunc_int, g_slices_ContainsFunc_int, go_sem, ↓tq_n, ↓tq_e, ↓tq_r, ↓bq_n, ↓bq_e, ↓bq_r, ↓rq_n, ↓rq_r, ↓rq_e]
  refine CallG.mk (r_slices_IndexFunc_int nl e tl f caps p h' (fun i hi => (hp i hi).leB hl)) ?_
  simp only [F_slices_ContainsFunc_int, g_slices_ContainsFunc_int, go_sem, ↓tq_n, ↓tq_e, ↓tq_r, ↓bq_n, ↓bq_e, ↓bq_r, ↓rq_n, ↓rq_r, ↓rq_e]
  refine ret_hb (by repeat' first | exact AH.le.refl _ | assumption | (refine AH.le_put ?_ (by first | assumption | exact (AH.blk_put_ne _ _ (by assumption)).trans (by assumption) | exact AH.none_put (by assumption) | exact AH.none_put (AH.none_put (by assumption)) | (simp only [AH.blk_setTok, AH.tok_put] at *; first | assumption | exact AH.none_put (by assumption)))) | (refine AH.le_setTok ?_ (by first | assumption | exact (AH.blk_put_ne _ _ (by assumption)).trans (by assumption) | exact AH.none_put (by assumption) | exact AH.none_put (AH.none_put (by assumption)) | (simp only [AH.blk_setTok, AH.tok_put] at *; first | assumption | exact AH.none_put (by assumption)))) | (refine AH.le_putM ?_ (by first | assumption | exact (AH.mp_putM_ne _ _ (by assumption)).trans (by assumption) | (simp only [AH.mp_put, AH.mp_setTok] at *; assumption)))) ?_
  rw [anyI]

/-- The weights are those of evidence. -/
def Wl (w : List Int) : Prop := ∀ i, i < w.length → 1 ≤ w.getD i 0 ∧ w.getD i 0 ≤ 100
instance (w : List Int) : Decidable (Wl w) := by unfold Wl; infer_instance
def Okc (n : Int) (a : List (Int × Int)) (w : List Int) : Prop := n ≤ 9 ∧ a.length ≤ 24 ∧ Ev n a ∧ w.length = a.length ∧ Wl w
instance (n : Int) (a : List (Int × Int)) (w : List Int) : Decidable (Okc n a w) := by unfold Okc; infer_instance
def chkE (n : Int) (a : List (Int × Int)) (w : List Int) : Int := if 9 < n ∨ 24 < a.length then 6 else if Ev n a ∧ w.length = a.length ∧ Wl w then 0 else 1
theorem chk_ok {n : Int} {a : List (Int × Int)} {w : List Int} : chkE n a w = 0 ↔ Okc n a w := by
  unfold chkE Okc
  by_cases h : 9 < n ∨ 24 < a.length
  · rw [if_pos h]
    constructor
    · intro hh; cases hh
    · rintro ⟨h1, h2, _⟩; omega
  · rw [if_neg h]
    by_cases h2 : Ev n a ∧ w.length = a.length ∧ Wl w
    · rw [if_pos h2]; exact ⟨fun _ => ⟨by omega, by omega, h2⟩, fun _ => rfl⟩
    · rw [if_neg h2]
      constructor
      · intro hh; cases hh
      · rintro ⟨_, _, h3⟩; exact absurd h3 h2
theorem okc_w1 {n : Int} {a : List (Int × Int)} {w : List Int} (h : Okc n a w) : W1 a w := ⟨h.2.2.2.1, h.2.1, fun i hi => h.2.2.2.2 i (by rw [h.2.2.2.1]; exact hi)⟩
theorem r_attribution_check_1 (x : Int) (h : AH) : RCall Tryz.prog 54 [I x] h (.bool (!decide (1 ≤ x ∧ x ≤ 100))) := by
  refine RCall.of hm cF_attribution_check_1 (by simp [g_attribution_check_1]) fun hw h' hl => ?_
  by_cases h1 : x < 1
  · simp only [h1, F_attribution_check_1, g_attribution_check_1, go_sem, ↓tq_n, ↓tq_e, ↓tq_r, ↓bq_n, ↓bq_e, ↓bq_r, ↓rq_n, ↓rq_r, ↓rq_e]
    exact ret_ok (by rw [decide_eq_false (by omega)]; rfl)
  · by_cases h2 : 100 < x
    · simp only [h1, h2, F_attribution_check_1, g_attribution_check_1, go_sem, ↓tq_n, ↓tq_e, ↓tq_r, ↓bq_n, ↓bq_e, ↓bq_r, ↓rq_n, ↓rq_r, ↓rq_e]
      exact ret_ok (by rw [decide_eq_false (by omega)]; rfl)
    · simp only [h1, h2, F_attribution_check_1, g_attribution_check_1, go_sem, ↓tq_n, ↓tq_e, ↓tq_r, ↓bq_n, ↓bq_e, ↓bq_r, ↓rq_n, ↓rq_r, ↓rq_e]
      exact ret_ok (by rw [decide_eq_true (by omega)]; rfl)
theorem wl_any (w : List Int) : ((List.range w.length).any fun i => !decide (1 ≤ w.getD i 0 ∧ w.getD i 0 ≤ 100)) = !decide (Wl w) := by
  by_cases h : Wl w
  · rw [decide_eq_true h, Bool.not_true, Bool.eq_false_iff]
    intro hh
    obtain ⟨i, h1, h2⟩ := List.any_eq_true.1 hh
    rw [decide_eq_true (h i (List.mem_range.1 h1))] at h2
    cases h2
  · rw [decide_eq_false h, Bool.not_false, List.any_eq_true]
    obtain ⟨i, hi⟩ := Classical.not_forall.1 h
    have h1 : i < w.length := Classical.byContradiction fun hh => hi fun hlt => absurd hlt hh
    exact ⟨i, List.mem_range.2 h1, by rw [decide_eq_false (fun hh => hi fun _ => hh)]; rfl⟩
theorem r_attribution_check (n : Int) (n1 : Bool) (a : List (Int × Int)) (u1 : Tail) (n2 : Bool) (w : List Int) (u2 : Tail) (h : AH) : RCall Tryz.prog n_attribution_check [I n, .sl n1 a.length (prs a) u1, .sl n2 w.length (i64s w) u2] h (I (chkE n a w)) := by
  refine RCall.of hm cF_attribution_check (by simp [g_attribution_check]) fun hw h' hl => ?_
  by_cases c1 : 9 < n
  · simp only [c1, F_attribution_check, g_attribution_check, go_sem, ↓tq_n, ↓tq_e, ↓tq_r, ↓bq_n, ↓bq_e, ↓bq_r, ↓rq_n, ↓rq_r, ↓rq_e]
    exact ret_ok (by simp [chkE, c1])
  by_cases c2 : 24 < a.length
  · have c2' : (24 : Int) < (a.length : Int) := by omega
    simp only [c1, c2', F_attribution_check, g_attribution_check, go_sem, ↓tq_n, ↓tq_e, ↓tq_r, ↓bq_n, ↓bq_e, ↓bq_r, ↓rq_n, ↓rq_r, ↓rq_e]
    exact ret_ok (by simp [chkE, c2])
  have c2' : ¬ (24 : Int) < (a.length : Int) := by omega
  have e0 : chkE n a w = if Ev n a ∧ w.length = a.length ∧ Wl w then 0 else 1 := by
    unfold chkE
    rw [if_neg (fun hh => by rcases hh with hh | hh; exact c1 hh; exact c2 hh)]
  simp only [c1, c2', F_attribution_check, g_attribution_check, go_sem, ↓tq_n, ↓tq_e, ↓tq_r, ↓bq_n, ↓bq_e, ↓bq_r, ↓rq_n, ↓rq_r, ↓rq_e]
  refine CallG.mk (r_contradiction_Valid n n1 a u1 _) ?_
  by_cases c3 : Ev n a
  case neg =>
    rw [decide_eq_false c3]
    simp only [F_attribution_check, g_attribution_check, go_sem, ↓tq_n, ↓tq_e, ↓tq_r, ↓bq_n, ↓bq_e, ↓bq_r, ↓rq_n, ↓rq_r, ↓rq_e]
    exact ret_ok (by rw [e0, if_neg (fun hh => c3 hh.1)])
  rw [decide_eq_true c3]
  by_cases c4 : w.length = a.length
  case neg =>
    have c4' : ¬ (w.length : Int) = (a.length : Int) := by omega
    simp only [c4', F_attribution_check, g_attribution_check, go_sem, ↓tq_n, ↓tq_e, ↓tq_r, ↓bq_n, ↓bq_e, ↓bq_r, ↓rq_n, ↓rq_r, ↓rq_e]
    exact ret_ok (by rw [e0, if_neg (fun hh => c4 hh.2.1)])
  have c4' : (w.length : Int) = (a.length : Int) := by omega
  simp only [decide_eq_true c4', F_attribution_check, g_attribution_check, go_sem, ↓tq_n, ↓tq_e, ↓tq_r, ↓bq_n, ↓bq_e, ↓bq_r, ↓rq_n, ↓rq_r, ↓rq_e]
  refine CallG.mk (r_slices_ContainsFunc_int n2 w u2 54 [] (fun i => !decide (1 ≤ w.getD i 0 ∧ w.getD i 0 ≤ 100)) _ (fun i _ => r_attribution_check_1 _ _)) ?_
  rw [wl_any]
  by_cases c5 : Wl w
  · rw [decide_eq_true c5]
    simp only [F_attribution_check, g_attribution_check, go_sem, ↓tq_n, ↓tq_e, ↓tq_r, ↓bq_n, ↓bq_e, ↓bq_r, ↓rq_n, ↓rq_r, ↓rq_e]
    exact ret_ok (by rw [e0, if_pos ⟨c3, c4, c5⟩])
  · rw [decide_eq_false c5]
    simp only [F_attribution_check, g_attribution_check, go_sem, ↓tq_n, ↓tq_e, ↓tq_r, ↓bq_n, ↓bq_e, ↓bq_r, ↓rq_n, ↓rq_r, ↓rq_e]
    exact ret_ok (by rw [e0, if_neg (fun hh => c5 hh.2.2)])
theorem r_attribution_indices (nl : Bool) (s : List Int) (tl : Tail) (k : Int) (h : AH) : RCall Tryz.prog n_attribution_indices [.sl nl s.length (i64s s) tl, I k] h (.bool (decide (Ix k s))) := by
  refine RCall.of hm cF_attribution_indices (by simp [g_attribution_indices]) fun hw h' hl => ?_
  have hx := wf_len (hw _ (.head _))
  simp only [F_attribution_indices, g_attribution_indices, go_sem, ↓tq_n, ↓tq_e, ↓tq_r, ↓bq_n, ↓bq_e, ↓bq_r, ↓rq_n, ↓rq_r, ↓rq_e]
  refine awp_loop (fun i : Nat => [(0, .sl nl s.length (i64s s) tl), (1, I k), (7, .sl nl s.length (i64s s) tl), (8, I s.length), (9, I i)]) (fun _ => h') (fun i => i ≤ s.length ∧ ∀ j, j < i → ixA k s j) (fun i => s.length - i) 0 ⟨Nat.zero_le _, fun j hj => absurd hj (Nat.not_lt_zero _)⟩ (GStep.forget (by repeat' first | exact EnvLe.nil _ | refine EnvLe.cons (AV.le.of_eq rfl) ?_ | refine EnvLe.cons (AV.le.undef _) ?_ | refine EnvLe.cons AV.le.unk ?_) (by repeat' first | exact AH.le.refl _ | assumption | (refine AH.le_put ?_ (by first | assumption | exact (AH.blk_put_ne _ _ (by assumption)).trans (by assumption) | exact AH.none_put (by assumption) | exact AH.none_put (AH.none_put (by assumption)) | (simp only [AH.blk_setTok, AH.tok_put] at *; first | assumption | exact AH.none_put (by assumption)))) | (refine AH.le_setTok ?_ (by first | assumption | exact (AH.blk_put_ne _ _ (by assumption)).trans (by assumption) | exact AH.none_put (by assumption) | exact AH.none_put (AH.none_put (by assumption)) | (simp only [AH.blk_setTok, AH.tok_put] at *; first | assumption | exact AH.none_put (by assumption)))) | (refine AH.le_putM ?_ (by first | assumption | exact (AH.mp_putM_ne _ _ (by assumption)).trans (by assumption) | (simp only [AH.mp_put, AH.mp_setTok] at *; assumption))))) fun i hi => .of_vg hm ?_
  obtain ⟨h1, h2⟩ := hi
  by_cases hc : i < s.length
  · have hc1 : (i : Int) < (s.length : Int) := by omega
    have no : ¬ ixA k s i → decide (Ix k s) = false := fun hn => decide_eq_false fun he => hn (he i hc)
    by_cases v1 : s.getD i 0 < 0
    · simp only [hc1, i64s_drop hc, v1, F_attribution_indices, g_attribution_indices, go_sem, ↓tq_n, ↓tq_e, ↓tq_r, ↓bq_n, ↓bq_e, ↓bq_r, ↓rq_n, ↓rq_r, ↓rq_e]
      exact ret_ok (by rw [no (fun hv => by have := hv.1; omega)])
    by_cases v2 : k ≤ s.getD i 0
    · simp only [hc1, i64s_drop hc, v1, v2, F_attribution_indices, g_attribution_indices, go_sem, ↓tq_n, ↓tq_e, ↓tq_r, ↓bq_n, ↓bq_e, ↓bq_r, ↓rq_n, ↓rq_r, ↓rq_e]
      exact ret_ok (by rw [no (fun hv => by have := hv.1; omega)])
    cases i with
    | zero =>
      have hz : ¬ (0 : Int) < ((0 : Nat) : Int) := by omega
      simp only [hc1, i64s_drop hc, v1, v2, hz, F_attribution_indices, g_attribution_indices, go_sem, ↓tq_n, ↓tq_e, ↓tq_r, ↓bq_n, ↓bq_e, ↓bq_r, ↓rq_n, ↓rq_r, ↓rq_e]
      exact ⟨by rw [inR64]; omega, 1, ⟨by omega, all_succ h2 ⟨by omega, fun hh => by omega⟩⟩, by omega, (GStep.forget (by repeat' first | exact EnvLe.nil _ | refine EnvLe.cons (AV.le.of_eq rfl) ?_ | refine EnvLe.cons (AV.le.undef _) ?_ | refine EnvLe.cons AV.le.unk ?_) (by repeat' first | exact AH.le.refl _ | assumption | (refine AH.le_put ?_ (by first | assumption | exact (AH.blk_put_ne _ _ (by assumption)).trans (by assumption) | exact AH.none_put (by assumption) | exact AH.none_put (AH.none_put (by assumption)) | (simp only [AH.blk_setTok, AH.tok_put] at *; first | assumption | exact AH.none_put (by assumption)))) | (refine AH.le_setTok ?_ (by first | assumption | exact (AH.blk_put_ne _ _ (by assumption)).trans (by assumption) | exact AH.none_put (by assumption) | exact AH.none_put (AH.none_put (by assumption)) | (simp only [AH.blk_setTok, AH.tok_put] at *; first | assumption | exact AH.none_put (by assumption)))) | (refine AH.le_putM ?_ (by first | assumption | exact (AH.mp_putM_ne _ _ (by assumption)).trans (by assumption) | (simp only [AH.mp_put, AH.mp_setTok] at *; assumption)))))⟩
    | succ j =>
      have hj0 : (0 : Int) < ((j + 1 : Nat) : Int) := by omega
      have hjj : ((j + 1 : Nat) : Int) - 1 = (j : Int) := by omega
      have hj1 : (j : Int) < (s.length : Int) := by omega
      simp only [hc1, i64s_drop hc, v1, v2, hj0, hjj, hj1, i64s_drop (show j < s.length by omega), F_attribution_indices, g_attribution_indices, go_sem, ↓tq_n, ↓tq_e, ↓tq_r, ↓bq_n, ↓bq_e, ↓bq_r, ↓rq_n, ↓rq_r, ↓rq_e]
      refine ⟨by rw [inR64]; omega, fun v3 => ?_, fun v3 => ?_⟩
      · exact ret_ok (by rw [no (fun hv => by have := hv.2 (by omega); simp only [Nat.add_sub_cancel] at this; omega)])
      · exact ⟨by rw [inR64]; omega, j + 1 + 1, ⟨by omega, all_succ h2 ⟨by omega, fun _ => by simp only [Nat.add_sub_cancel]; omega⟩⟩, by omega, (GStep.forget (by repeat' first | exact EnvLe.nil _ | refine EnvLe.cons (AV.le.of_eq rfl) ?_ | refine EnvLe.cons (AV.le.undef _) ?_ | refine EnvLe.cons AV.le.unk ?_) (by repeat' first | exact AH.le.refl _ | assumption | (refine AH.le_put ?_ (by first | assumption | exact (AH.blk_put_ne _ _ (by assumption)).trans (by assumption) | exact AH.none_put (by assumption) | exact AH.none_put (AH.none_put (by assumption)) | (simp only [AH.blk_setTok, AH.tok_put] at *; first | assumption | exact AH.none_put (by assumption)))) | (refine AH.le_setTok ?_ (by first | assumption | exact (AH.blk_put_ne _ _ (by assumption)).trans (by assumption) | exact AH.none_put (by assumption) | exact AH.none_put (AH.none_put (by assumption)) | (simp only [AH.blk_setTok, AH.tok_put] at *; first | assumption | exact AH.none_put (by assumption)))) | (refine AH.le_putM ?_ (by first | assumption | exact (AH.mp_putM_ne _ _ (by assumption)).trans (by assumption) | (simp only [AH.mp_put, AH.mp_setTok] at *; assumption)))))⟩
  · have h3 : i = s.length := by omega
    subst h3
    simp only [F_attribution_indices, g_attribution_indices, go_sem, ↓tq_n, ↓tq_e, ↓tq_r, ↓bq_n, ↓bq_e, ↓bq_r, ↓rq_n, ↓rq_r, ↓rq_e]
    have e : Ix k s := h2
    exact ret_ok (by simp [e])

/-! The cost of a set. -/
def csK (w : List Int) (s : List Int) : Nat → Int
  | 0 => 0
  | k + 1 => csK w s k + w.getD (s.getD k 0).toNat 0
theorem csK_le {w s : List Int} {c : Int} (hc : 0 ≤ c) (hw : ∀ i, 0 ≤ w.getD i 0 ∧ w.getD i 0 ≤ c) : ∀ k, 0 ≤ csK w s k ∧ csK w s k ≤ k * c := by
  intro k
  induction k with
  | zero => simp [csK]
  | succ k ih =>
    have := hw (s.getD k 0).toNat
    have e : ((k + 1 : Nat) : Int) * c = k * c + c := by rw [Int.natCast_add, Int.add_mul]; simp
    simp only [csK]
    omega
theorem wl_all {w : List Int} (h : Wl w) (i : Nat) : 0 ≤ w.getD i 0 ∧ w.getD i 0 ≤ 100 := by
  rcases Nat.lt_or_ge i w.length with h1 | h1
  · have := h i h1; omega
  · have : w.getD i 0 = 0 := by simp [List.getD, h1]
    rw [this]; omega
def coV (n : Int) (a : List (Int × Int)) (w s : List Int) : AV := if chkE n a w = 0 then (if Ix a.length s then .tup [I (csK w s s.length), I 0] else .tup [I 0, I 2]) else .tup [I 0, I (chkE n a w)]
theorem r_attribution_Cost (n : Int) (n1 : Bool) (a : List (Int × Int)) (u1 : Tail) (n2 : Bool) (w : List Int) (u2 : Tail) (n3 : Bool) (s : List Int) (u3 : Tail) (h : AH) : RCall Tryz.prog n_attribution_Cost [I n, .sl n1 a.length (prs a) u1, .sl n2 w.length (i64s w) u2, .sl n3 s.length (i64s s) u3] h (coV n a w s) := by
  refine RCall.of hm cF_attribution_Cost (by simp [g_attribution_Cost]) fun hw h' hl => ?_
  simp only [F_attribution_Cost, g_attribution_Cost, go_sem, ↓tq_n, ↓tq_e, ↓tq_r, ↓bq_n, ↓bq_e, ↓bq_r, ↓rq_n, ↓rq_r, ↓rq_e]
  refine CallG.mk (r_attribution_check n n1 a u1 n2 w u2 _) ?_
  by_cases c1 : chkE n a w = 0
  case neg =>
    simp only [c1, F_attribution_Cost, g_attribution_Cost, go_sem, ↓tq_n, ↓tq_e, ↓tq_r, ↓bq_n, ↓bq_e, ↓bq_r, ↓rq_n, ↓rq_r, ↓rq_e]
    exact ret_ok (by simp [coV, c1])
  simp only [c1, F_attribution_Cost, g_attribution_Cost, go_sem, ↓tq_n, ↓tq_e, ↓tq_r, ↓bq_n, ↓bq_e, ↓bq_r, ↓rq_n, ↓rq_r, ↓rq_e]
  refine CallG.mk (r_attribution_indices n3 s u3 a.length _) ?_
  have hok := chk_ok.1 c1
  by_cases c2 : Ix a.length s
  case neg =>
    rw [decide_eq_false c2]
    simp only [F_attribution_Cost, g_attribution_Cost, go_sem, ↓tq_n, ↓tq_e, ↓tq_r, ↓bq_n, ↓bq_e, ↓bq_r, ↓rq_n, ↓rq_r, ↓rq_e]
    exact ret_ok (by simp [coV, c1, c2])
  rw [decide_eq_true c2]
  have hsl := ix_len c2
  have hal := hok.2.1
  have hwl := hok.2.2.2.1
  simp only [F_attribution_Cost, g_attribution_Cost, go_sem, ↓tq_n, ↓tq_e, ↓tq_r, ↓bq_n, ↓bq_e, ↓bq_r, ↓rq_n, ↓rq_r, ↓rq_e]
  refine awp_loop (fun i : Nat => [(0, I n), (1, .sl n1 a.length (prs a) u1), (2, .sl n2 w.length (i64s w) u2), (11, I (csK w s i)), (26, .sl n3 s.length (i64s s) u3), (27, I s.length), (28, I i)]) (fun _ => h') (fun i => i ≤ s.length) (fun i => s.length - i) 0 (Nat.zero_le _) (GStep.forget (by repeat' first | exact EnvLe.nil _ | refine EnvLe.cons (AV.le.of_eq rfl) ?_ | refine EnvLe.cons (AV.le.undef _) ?_ | refine EnvLe.cons AV.le.unk ?_) (by repeat' first | exact AH.le.refl _ | assumption | (refine AH.le_put ?_ (by first | assumption | exact (AH.blk_put_ne _ _ (by assumption)).trans (by assumption) | exact AH.none_put (by assumption) | exact AH.none_put (AH.none_put (by assumption)) | (simp only [AH.blk_setTok, AH.tok_put] at *; first | assumption | exact AH.none_put (by assumption)))) | (refine AH.le_setTok ?_ (by first | assumption | exact (AH.blk_put_ne _ _ (by assumption)).trans (by assumption) | exact AH.none_put (by assumption) | exact AH.none_put (AH.none_put (by assumption)) | (simp only [AH.blk_setTok, AH.tok_put] at *; first | assumption | exact AH.none_put (by assumption)))) | (refine AH.le_putM ?_ (by first | assumption | exact (AH.mp_putM_ne _ _ (by assumption)).trans (by assumption) | (simp only [AH.mp_put, AH.mp_setTok] at *; assumption))))) fun i hi => .of_vg hm ?_
  by_cases h3 : i < s.length
  · have hc : (i : Int) < (s.length : Int) := by omega
    obtain ⟨i1, i2, i3⟩ := ix_at c2 h3
    have i4 : s.getD i 0 < (w.length : Int) := by omega
    have hb := csK_le (w := w) (s := s) (c := 100) (by omega) (wl_all hok.2.2.2.2) i
    have hb2 := csK_le (w := w) (s := s) (c := 100) (by omega) (wl_all hok.2.2.2.2) (i + 1)
    simp only [csK] at hb2
    simp only [hc, i64s_drop h3, i1, i4, i64s_drop (show (s.getD i 0).toNat < w.length by omega), F_attribution_Cost, g_attribution_Cost, go_sem, ↓tq_n, ↓tq_e, ↓tq_r, ↓bq_n, ↓bq_e, ↓bq_r, ↓rq_n, ↓rq_r, ↓rq_e]
    exact ⟨by rw [inR64]; omega, by rw [inR64]; omega, i + 1, by omega, by omega, (GStep.forget (by repeat' first | exact EnvLe.nil _ | refine EnvLe.cons (AV.le.of_eq rfl) ?_ | refine EnvLe.cons (AV.le.undef _) ?_ | refine EnvLe.cons AV.le.unk ?_) (by repeat' first | exact AH.le.refl _ | assumption | (refine AH.le_put ?_ (by first | assumption | exact (AH.blk_put_ne _ _ (by assumption)).trans (by assumption) | exact AH.none_put (by assumption) | exact AH.none_put (AH.none_put (by assumption)) | (simp only [AH.blk_setTok, AH.tok_put] at *; first | assumption | exact AH.none_put (by assumption)))) | (refine AH.le_setTok ?_ (by first | assumption | exact (AH.blk_put_ne _ _ (by assumption)).trans (by assumption) | exact AH.none_put (by assumption) | exact AH.none_put (AH.none_put (by assumption)) | (simp only [AH.blk_setTok, AH.tok_put] at *; first | assumption | exact AH.none_put (by assumption)))) | (refine AH.le_putM ?_ (by first | assumption | exact (AH.mp_putM_ne _ _ (by assumption)).trans (by assumption) | (simp only [AH.mp_put, AH.mp_setTok] at *; assumption)))))⟩
  have h3 : i = s.length := by omega
  subst h3
  simp only [F_attribution_Cost, g_attribution_Cost, go_sem, ↓tq_n, ↓tq_e, ↓tq_r, ↓bq_n, ↓bq_e, ↓bq_r, ↓rq_n, ↓rq_r, ↓rq_e]
  exact ret_ok (by simp [coV, c1, c2])
/-! What is left without a set. -/
def rsK (s : List Int) (i : Nat) : List Nat := (List.range i).filter fun k : Nat => !decide ((k : Int) ∈ s)
theorem rsK_succ (s : List Int) (i : Nat) : rsK s (i + 1) = if (i : Int) ∈ s then rsK s i else rsK s i ++ [i] := by
  unfold rsK
  rw [List.range_succ, List.filter_append]
  by_cases h : (i : Int) ∈ s
  · rw [if_pos h]; simp [h]
  · rw [if_neg h]; simp [h]
theorem rsK_len (s : List Int) (i : Nat) : (rsK s i).length ≤ i := by
  have := List.length_filter_le (fun k : Nat => !decide ((k : Int) ∈ s)) (List.range i)
  rw [List.length_range] at this
  exact this
theorem rsK_ix (s : List Int) (k : Nat) : Ix (k : Int) (nats (rsK s k)) := by
  refine ix_sub (ix_whole k) ?_
  unfold nats
  exact (List.filter_sublist).map _
def rpB (n : Int) (a : List (Int × Int)) (w s : List Int) : Bool := decide (Okc n a w ∧ Ix a.length s) && !cyB n.toNat (sub a (nats (rsK s a.length)))
theorem rpB_iff {n : Nat} {a : List (Int × Int)} {w s : List Int} : rpB n a w s = true ↔ (Okc n a w ∧ Ix a.length s) ∧ cyB n (sub a (nats (rsK s a.length))) = false := by
  unfold rpB
  rw [Bool.and_eq_true, decide_eq_true_eq, Bool.not_eq_true', Int.toNat_natCast]
theorem r_attribution_Repairs (n : Int) (n1 : Bool) (a : List (Int × Int)) (u1 : Tail) (n2 : Bool) (w : List Int) (u2 : Tail) (n3 : Bool) (s : List Int) (u3 : Tail) (h : AH) : RCall Tryz.prog n_attribution_Repairs [I n, .sl n1 a.length (prs a) u1, .sl n2 w.length (i64s w) u2, .sl n3 s.length (i64s s) u3] h (.bool (rpB n a w s)) := by
  refine RCall.of hm cF_attribution_Repairs (by simp [g_attribution_Repairs]) fun hw h' hl => ?_
  simp only [F_attribution_Repairs, g_attribution_Repairs, go_sem, ↓tq_n, ↓tq_e, ↓tq_r, ↓bq_n, ↓bq_e, ↓bq_r, ↓rq_n, ↓rq_r, ↓rq_e]
  refine CallG.mk (r_attribution_Cost n n1 a u1 n2 w u2 n3 s u3 _) ?_
  unfold coV
  by_cases c1 : chkE n a w = 0
  case neg =>
    rw [if_neg c1]
    simp only [c1, F_attribution_Repairs, g_attribution_Repairs, go_sem, ↓tq_n, ↓tq_e, ↓tq_r, ↓bq_n, ↓bq_e, ↓bq_r, ↓rq_n, ↓rq_r, ↓rq_e]
    exact ret_ok (by unfold rpB; rw [decide_eq_false (fun hh => c1 (chk_ok.2 hh.1))]; rfl)
  rw [if_pos c1]
  have hok := chk_ok.1 c1
  by_cases c2 : Ix a.length s
  case neg =>
    rw [if_neg c2]
    simp only [F_attribution_Repairs, g_attribution_Repairs, go_sem, ↓tq_n, ↓tq_e, ↓tq_r, ↓bq_n, ↓bq_e, ↓bq_r, ↓rq_n, ↓rq_r, ↓rq_e]
    exact ret_ok (by unfold rpB; rw [decide_eq_false (fun hh => c2 hh.2)]; rfl)
  rw [if_pos c2]
  have hal := hok.2.1
  simp only [F_attribution_Repairs, g_attribution_Repairs, go_sem, ↓tq_n, ↓tq_e, ↓tq_r, ↓bq_n, ↓bq_e, ↓bq_r, ↓rq_n, ↓rq_r, ↓rq_e]
  refine awp_tok 11 1 (nl := true) (n := 0) (cs := []) rfl fun t ht => ?_
  refine awp_loop (fun i : Nat => [(0, I n), (1, .sl n1 a.length (prs a) u1), (3, .sl n3 s.length (i64s s) u3), (11, gl (i64s (nats (rsK s i))) (nats (rsK s i)).length (.tok t)), (24, I a.length), (25, I i)]) (fun i => h'.setTok t (nats (rsK s i)).length 1) (fun i => i ≤ a.length) (fun i => a.length - i) 0 (Nat.zero_le _) (GStep.forget (by repeat' first | exact EnvLe.nil _ | refine EnvLe.cons (AV.le.of_eq rfl) ?_ | refine EnvLe.cons (AV.le.undef _) ?_ | refine EnvLe.cons AV.le.unk ?_) (by repeat' first | exact AH.le.refl _ | assumption | (refine AH.le_put ?_ (by first | assumption | exact (AH.blk_put_ne _ _ (by assumption)).trans (by assumption) | exact AH.none_put (by assumption) | exact AH.none_put (AH.none_put (by assumption)) | (simp only [AH.blk_setTok, AH.tok_put] at *; first | assumption | exact AH.none_put (by assumption)))) | (refine AH.le_setTok ?_ (by first | assumption | exact (AH.blk_put_ne _ _ (by assumption)).trans (by assumption) | exact AH.none_put (by assumption) | exact AH.none_put (AH.none_put (by assumption)) | (simp only [AH.blk_setTok, AH.tok_put] at *; first | assumption | exact AH.none_put (by assumption)))) | (refine AH.le_putM ?_ (by first | assumption | exact (AH.mp_putM_ne _ _ (by assumption)).trans (by assumption) | (simp only [AH.mp_put, AH.mp_setTok] at *; assumption))))) fun i hi => .of_vg hm ?_
  by_cases h3 : i < a.length
  · have hc : (i : Int) < (a.length : Int) := by omega
    have hsucc := rsK_succ s i
    have hrl := rsK_len s i
    have hnl := nats_len (rsK s i)
    simp only [hc, F_attribution_Repairs, g_attribution_Repairs, go_sem, ↓tq_n, ↓tq_e, ↓tq_r, ↓bq_n, ↓bq_e, ↓bq_r, ↓rq_n, ↓rq_r, ↓rq_e]
    refine CallG.mk (r_slices_Contains_int n3 s u3 i _) ?_
    by_cases hin : (i : Int) ∈ s
    · rw [if_pos hin] at hsucc
      rw [decide_eq_true hin]
      simp only [F_attribution_Repairs, g_attribution_Repairs, go_sem, ↓tq_n, ↓tq_e, ↓tq_r, ↓bq_n, ↓bq_e, ↓bq_r, ↓rq_n, ↓rq_r, ↓rq_e]
      refine ⟨by rw [inR64]; omega, i + 1, by omega, by omega, ?_⟩
      rw [hsucc]
      exact (GStep.forget (by repeat' first | exact EnvLe.nil _ | refine EnvLe.cons (AV.le.of_eq rfl) ?_ | refine EnvLe.cons (AV.le.undef _) ?_ | refine EnvLe.cons AV.le.unk ?_) (by repeat' first | exact AH.le.refl _ | assumption | (refine AH.le_put ?_ (by first | assumption | exact (AH.blk_put_ne _ _ (by assumption)).trans (by assumption) | exact AH.none_put (by assumption) | exact AH.none_put (AH.none_put (by assumption)) | (simp only [AH.blk_setTok, AH.tok_put] at *; first | assumption | exact AH.none_put (by assumption)))) | (refine AH.le_setTok ?_ (by first | assumption | exact (AH.blk_put_ne _ _ (by assumption)).trans (by assumption) | exact AH.none_put (by assumption) | exact AH.none_put (AH.none_put (by assumption)) | (simp only [AH.blk_setTok, AH.tok_put] at *; first | assumption | exact AH.none_put (by assumption)))) | (refine AH.le_putM ?_ (by first | assumption | exact (AH.mp_putM_ne _ _ (by assumption)).trans (by assumption) | (simp only [AH.mp_put, AH.mp_setTok] at *; assumption)))))
    · rw [if_neg hin] at hsucc
      rw [decide_eq_false hin]
      simp only [F_attribution_Repairs, g_attribution_Repairs, go_sem, ↓tq_n, ↓tq_e, ↓tq_r, ↓bq_n, ↓bq_e, ↓bq_r, ↓rq_n, ↓rq_r, ↓rq_e]
      refine ⟨by rw [i64s_len], by omega, by omega, by rw [inR64]; omega, i + 1, by omega, by omega, ?_⟩
      rw [hsucc, nats_append, i64s_append, List.length_append]
      exact (GStep.forget (by repeat' first | exact EnvLe.nil _ | refine EnvLe.cons (AV.le.of_eq rfl) ?_ | refine EnvLe.cons (AV.le.undef _) ?_ | refine EnvLe.cons AV.le.unk ?_) (by repeat' first | exact AH.le.refl _ | assumption | (refine AH.le_put ?_ (by first | assumption | exact (AH.blk_put_ne _ _ (by assumption)).trans (by assumption) | exact AH.none_put (by assumption) | exact AH.none_put (AH.none_put (by assumption)) | (simp only [AH.blk_setTok, AH.tok_put] at *; first | assumption | exact AH.none_put (by assumption)))) | (refine AH.le_setTok ?_ (by first | assumption | exact (AH.blk_put_ne _ _ (by assumption)).trans (by assumption) | exact AH.none_put (by assumption) | exact AH.none_put (AH.none_put (by assumption)) | (simp only [AH.blk_setTok, AH.tok_put] at *; first | assumption | exact AH.none_put (by assumption)))) | (refine AH.le_putM ?_ (by first | assumption | exact (AH.mp_putM_ne _ _ (by assumption)).trans (by assumption) | (simp only [AH.mp_put, AH.mp_setTok] at *; assumption)))))
  have h3 : i = a.length := by omega
  subst h3
  simp only [F_attribution_Repairs, g_attribution_Repairs, go_sem, ↓tq_n, ↓tq_e, ↓tq_r, ↓bq_n, ↓bq_e, ↓bq_r, ↓rq_n, ↓rq_r, ↓rq_e]
  refine CallG.mk (r_contradiction_Agrees n n1 a u1 (decide ((nats (rsK s a.length)).length = 0)) (nats (rsK s a.length)) (.tok t) _) ?_
  simp only [F_attribution_Repairs, g_attribution_Repairs, go_sem, ↓tq_n, ↓tq_e, ↓tq_r, ↓bq_n, ↓bq_e, ↓bq_r, ↓rq_n, ↓rq_r, ↓rq_e]
  refine ret_hb (AH.le_setTok (AH.le.refl _) ht) ?_
  unfold agB rpB
  rw [decide_eq_true ⟨hok.2.2.1, rsK_ix s a.length⟩, decide_eq_true ⟨hok, c2⟩]
end Go.Proofs.YtidmekdkfiljjaaGreat
namespace Go.Proofs.YtidmekdkfiljjaaGreat
open Go Go.Abs
set_option linter.unusedSimpArgs false
set_option linter.unusedVariables false
set_option maxRecDepth 20000

/-- Weights that the table is made of. -/
def Wb (a : List (Int × Int)) (w : List Int) : Prop := w.length = a.length ∧ a.length ≤ 24 ∧ ∀ i, i < a.length → 0 ≤ w.getD i 0 ∧ w.getD i 0 ≤ 1000000
theorem Wb.ok {a : List (Int × Int)} {w : List Int} (h : Wb a w) : Wok a w := fun i hi => (h.2.2 i hi).1
theorem W1.wb {a : List (Int × Int)} {w : List Int} (h : W1 a w) : Wb a w := ⟨h.1, h.2.1, fun i hi => by have := h.2.2 i hi; omega⟩
theorem sum_bd {a : List (Int × Int)} {w : List Int} (h : Wb a w) (P : Nat → Bool) {k : Nat} (hk : k ≤ a.length) : 0 ≤ sumK w P k ∧ sumK w P k ≤ 24000000 := by
  have h1 := sumK_nonneg (w := w) (P := P) (k := k) (fun i hi => (h.2.2 i (by omega)).1)
  have h2 := sumK_le (w := w) (c := 1000000) (P := P) (k := k) (fun i hi => (h.2.2 i (by omega)).2) (by omega)
  have := h.2.1
  omega
theorem r_attribution_backward (n : Nat) (n1 : Bool) (a : List (Int × Int)) (u1 : Tail) (he : Ev n a) (x : AV) (w : List Int) (v s : Nat) (hv : v < n) (hs : s < 9223372036854775808) (hw0 : Wb a w) (h : AH) (hx : Rd h x w) :
    RCall Tryz.prog n_attribution_backward [.sl n1 a.length (prs a) u1, x, I v, I s] h (I (bw a w v s)) := by
  refine RCall.of hm cF_attribution_backward (by simp [g_attribution_backward]) fun hw h' hl => ?_
  have hx := hx.leB hl
  have hn : n ≤ 24 := by have := he.2.1; omega
  have ha := hw0.2.1
  simp only [F_attribution_backward, g_attribution_backward, go_sem, ↓tq_n, ↓tq_e, ↓tq_r, ↓bq_n, ↓bq_e, ↓bq_r, ↓rq_n, ↓rq_r, ↓rq_e]
  refine awp_loop (fun i : Nat => [(0, .sl n1 a.length (prs a) u1), (1, x), (2, I v), (3, I s), (9, I (sumK w (bwP a v s) i)), (12, .sl n1 a.length (prs a) u1), (13, I a.length), (14, I i)]) (fun _ => h') (fun i => i ≤ a.length) (fun i => a.length - i) 0 (Nat.zero_le _) (GStep.forget (by repeat' first | exact EnvLe.nil _ | refine EnvLe.cons (AV.le.of_eq rfl) ?_ | refine EnvLe.cons (AV.le.undef _) ?_ | refine EnvLe.cons AV.le.unk ?_) (by repeat' first | exact AH.le.refl _ | assumption | (refine AH.le_put ?_ (by first | assumption | exact (AH.blk_put_ne _ _ (by assumption)).trans (by assumption) | exact AH.none_put (by assumption) | exact AH.none_put (AH.none_put (by assumption)) | (simp only [AH.blk_setTok, AH.tok_put] at *; first | assumption | exact AH.none_put (by assumption)))) | (refine AH.le_setTok ?_ (by first | assumption | exact (AH.blk_put_ne _ _ (by assumption)).trans (by assumption) | exact AH.none_put (by assumption) | exact AH.none_put (AH.none_put (by assumption)) | (simp only [AH.blk_setTok, AH.tok_put] at *; first | assumption | exact AH.none_put (by assumption)))) | (refine AH.le_putM ?_ (by first | assumption | exact (AH.mp_putM_ne _ _ (by assumption)).trans (by assumption) | (simp only [AH.mp_put, AH.mp_setTok] at *; assumption))))) fun i hi => .of_vg hm ?_
  by_cases h3 : i < a.length
  case neg =>
    have h3 : i = a.length := by omega
    subst h3
    simp only [F_attribution_backward, g_attribution_backward, go_sem, ↓tq_n, ↓tq_e, ↓tq_r, ↓bq_n, ↓bq_e, ↓bq_r, ↓rq_n, ↓rq_r, ↓rq_e]
    exact ret_ok rfl
  have hc : (i : Int) < (a.length : Int) := by omega
  obtain ⟨e1, e2, e3, e4⟩ := ev_k he h3
  have b1 := sum_bd hw0 (bwP a v s) (k := i) (by omega)
  have b2 := sum_bd hw0 (bwP a v s) (k := i + 1) (by omega)
  have hsucc : sumK w (bwP a v s) (i + 1) = sumK w (bwP a v s) i + if bwP a v s i = true then w.getD i 0 else 0 := rfl
  have e0 := bit_at hs (show tt a i ≤ 64 by omega)
  have ht0 : (0 : Int) ≤ (tt a i : Int) := by omega
  by_cases c1 : fr a i = v
  case neg =>
    have c1' : ¬ (fr a i : Int) = (v : Int) := by omega
    rw [if_neg (by unfold bwP; simp [c1])] at hsucc
    simp only [hc, prs_drop h3, e1, c1', F_attribution_backward, g_attribution_backward, go_sem, ↓tq_n, ↓tq_e, ↓tq_r, ↓bq_n, ↓bq_e, ↓bq_r, ↓rq_n, ↓rq_r, ↓rq_e]
    refine ⟨by rw [inR64]; omega, i + 1, by omega, by omega, ?_⟩
    rw [hsucc, Int.add_zero]
    exact (GStep.forget (by repeat' first | exact EnvLe.nil _ | refine EnvLe.cons (AV.le.of_eq rfl) ?_ | refine EnvLe.cons (AV.le.undef _) ?_ | refine EnvLe.cons AV.le.unk ?_) (by repeat' first | exact AH.le.refl _ | assumption | (refine AH.le_put ?_ (by first | assumption | exact (AH.blk_put_ne _ _ (by assumption)).trans (by assumption) | exact AH.none_put (by assumption) | exact AH.none_put (AH.none_put (by assumption)) | (simp only [AH.blk_setTok, AH.tok_put] at *; first | assumption | exact AH.none_put (by assumption)))) | (refine AH.le_setTok ?_ (by first | assumption | exact (AH.blk_put_ne _ _ (by assumption)).trans (by assumption) | exact AH.none_put (by assumption) | exact AH.none_put (AH.none_put (by assumption)) | (simp only [AH.blk_setTok, AH.tok_put] at *; first | assumption | exact AH.none_put (by assumption)))) | (refine AH.le_putM ?_ (by first | assumption | exact (AH.mp_putM_ne _ _ (by assumption)).trans (by assumption) | (simp only [AH.mp_put, AH.mp_setTok] at *; assumption)))))
  have c1' : (fr a i : Int) = (v : Int) := by omega
  cases hb : s.testBit (tt a i) with
  | false =>
    rw [if_neg (by unfold bwP; simp [hb])] at hsucc
    rw [hb] at e0
    simp only [hc, prs_drop h3, e1, decide_eq_true c1', ht0, e0, F_attribution_backward, g_attribution_backward, go_sem, ↓tq_n, ↓tq_e, ↓tq_r, ↓bq_n, ↓bq_e, ↓bq_r, ↓rq_n, ↓rq_r, ↓rq_e]
    refine ⟨by rw [inR64]; omega, i + 1, by omega, by omega, ?_⟩
    rw [hsucc, Int.add_zero]
    exact (GStep.forget (by repeat' first | exact EnvLe.nil _ | refine EnvLe.cons (AV.le.of_eq rfl) ?_ | refine EnvLe.cons (AV.le.undef _) ?_ | refine EnvLe.cons AV.le.unk ?_) (by repeat' first | exact AH.le.refl _ | assumption | (refine AH.le_put ?_ (by first | assumption | exact (AH.blk_put_ne _ _ (by assumption)).trans (by assumption) | exact AH.none_put (by assumption) | exact AH.none_put (AH.none_put (by assumption)) | (simp only [AH.blk_setTok, AH.tok_put] at *; first | assumption | exact AH.none_put (by assumption)))) | (refine AH.le_setTok ?_ (by first | assumption | exact (AH.blk_put_ne _ _ (by assumption)).trans (by assumption) | exact AH.none_put (by assumption) | exact AH.none_put (AH.none_put (by assumption)) | (simp only [AH.blk_setTok, AH.tok_put] at *; first | assumption | exact AH.none_put (by assumption)))) | (refine AH.le_putM ?_ (by first | assumption | exact (AH.mp_putM_ne _ _ (by assumption)).trans (by assumption) | (simp only [AH.mp_put, AH.mp_setTok] at *; assumption)))))
  | true =>
    rw [if_pos (by unfold bwP; simp [c1, hb])] at hsucc
    rw [hb] at e0
    have hiw : i < w.length := by rw [hw0.1]; exact h3
    have hiw2 : (i : Int) < (w.length : Int) := by omega
    rw [hsucc] at b2
    simp only [hc, prs_drop h3, e1, decide_eq_true c1', ht0, e0, rd_ix hx, rd_ld hx hiw, hiw2, F_attribution_backward, g_attribution_backward, go_sem, ↓tq_n, ↓tq_e, ↓tq_r, ↓bq_n, ↓bq_e, ↓bq_r, ↓rq_n, ↓rq_r, ↓rq_e]
    refine ⟨by rw [inR64]; omega, by rw [inR64]; omega, i + 1, by omega, by omega, ?_⟩
    rw [hsucc]
    exact (GStep.forget (by repeat' first | exact EnvLe.nil _ | refine EnvLe.cons (AV.le.of_eq rfl) ?_ | refine EnvLe.cons (AV.le.undef _) ?_ | refine EnvLe.cons AV.le.unk ?_) (by repeat' first | exact AH.le.refl _ | assumption | (refine AH.le_put ?_ (by first | assumption | exact (AH.blk_put_ne _ _ (by assumption)).trans (by assumption) | exact AH.none_put (by assumption) | exact AH.none_put (AH.none_put (by assumption)) | (simp only [AH.blk_setTok, AH.tok_put] at *; first | assumption | exact AH.none_put (by assumption)))) | (refine AH.le_setTok ?_ (by first | assumption | exact (AH.blk_put_ne _ _ (by assumption)).trans (by assumption) | exact AH.none_put (by assumption) | exact AH.none_put (AH.none_put (by assumption)) | (simp only [AH.blk_setTok, AH.tok_put] at *; first | assumption | exact AH.none_put (by assumption)))) | (refine AH.le_putM ?_ (by first | assumption | exact (AH.mp_putM_ne _ _ (by assumption)).trans (by assumption) | (simp only [AH.mp_put, AH.mp_setTok] at *; assumption)))))

/-! How many vertices are not in a set. -/
def clK (s : Nat) : Nat → Nat
  | 0 => 0
  | k + 1 => clK s k + if s.testBit k then 0 else 1
theorem clK_or {s v : Nat} (hv : s.testBit v = false) : ∀ k, clK (s ||| 2 ^ v) k + (if v < k then 1 else 0) = clK s k := by
  intro k
  induction k with
  | zero => simp [clK]
  | succ k ih =>
    simp only [clK, bit_or]
    rcases Nat.lt_trichotomy v k with h | h | h
    · have h2 : ¬ v = k := by omega
      rw [if_pos h] at ih
      rw [if_pos (show v < k + 1 by omega), decide_eq_false h2, Bool.or_false]
      omega
    · subst h
      rw [if_neg (by omega)] at ih
      rw [if_pos (show v < v + 1 by omega), decide_eq_true rfl, Bool.or_true, hv]
      simp
      omega
    · have h2 : ¬ v = k := by omega
      have h4 : ¬ v < k + 1 := by omega
      rw [if_neg (by omega)] at ih
      simp only [h4, h2, decide_false, Bool.or_false, if_false]
      omega
theorem clK_le (s : Nat) : ∀ k, clK s k ≤ k := by
  intro k
  induction k with
  | zero => exact Nat.le_refl _
  | succ k ih => simp only [clK]; split <;> omega
theorem clK_zero : ∀ k, clK 0 k = k := by
  intro k
  induction k with
  | zero => rfl
  | succ k ih => simp [clK, ih]
theorem clK_full (n : Nat) : ∀ k, k ≤ n → clK (2 ^ n - 1) k = 0 := by
  intro k
  induction k with
  | zero => intro _; rfl
  | succ k ih => intro hk; simp only [clK, ih (by omega), Nat.testBit_two_pow_sub_one]; simp; omega
theorem clK_mk {n : Nat} : ∀ p : List Nat, Pre n p → clK (mk p) n + p.length = n := by
  intro p
  generalize hq : p.reverse = q
  have : p = q.reverse := by rw [← hq, List.reverse_reverse]
  subst this
  clear hq
  induction q with
  | nil => intro _; simp [mk, clK_zero]
  | cons v q ih =>
    intro h
    rw [List.reverse_cons] at h ⊢
    obtain ⟨h1, h2⟩ := h
    obtain ⟨n1, n2, n3⟩ := List.nodup_append.1 h1
    have hv : v < n := h2 v (by simp)
    have hn : v ∉ q.reverse := fun hh => n3 v hh v (by simp) rfl
    have := ih ⟨n1, fun x hx => h2 x (by simp only [List.mem_append]; exact .inl hx)⟩
    have h4 := clK_or (mk_out.2 hn) n
    rw [if_pos hv] at h4
    rw [mk_snoc, List.length_append, List.length_singleton]
    omega
theorem mk_lt {n : Nat} : ∀ p : List Nat, (∀ v ∈ p, v < n) → mk p < 2 ^ n := by
  intro p
  generalize hq : p.reverse = q
  have : p = q.reverse := by rw [← hq, List.reverse_reverse]
  subst this
  clear hq
  induction q with
  | nil => intro _; simp [mk]; exact Nat.pow_pos (by omega)
  | cons v q ih =>
    intro h
    rw [List.reverse_cons] at h ⊢
    rw [mk_snoc]
    exact Nat.or_lt_two_pow (ih fun x hx => h x (by simp only [List.mem_append]; exact .inl hx)) (Nat.pow_lt_pow_right (by omega) (h v (by simp)))
theorem or_gt {s v : Nat} (h : s.testBit v = false) : s < s ||| 2 ^ v := by
  have h1 : s ≤ s ||| 2 ^ v := Nat.left_le_or
  rcases Nat.lt_or_ge s (s ||| 2 ^ v) with h2 | h2
  · exact h2
  · have h3 : s ||| 2 ^ v = s := by omega
    have h4 : (s ||| 2 ^ v).testBit v = true := by rw [bit_or]; simp
    rw [h3, h] at h4; cases h4
/-- The table. -/
def tabL (n : Nat) (a : List (Int × Int)) (w : List Int) : List Int := (List.range (2 ^ n)).map fun s => T n a w (clK s n) s
theorem tabL_len (n : Nat) (a : List (Int × Int)) (w : List Int) : (tabL n a w).length = 2 ^ n := by simp [tabL]
theorem tabL_get {n : Nat} {a : List (Int × Int)} {w : List Int} {s : Nat} (hs : s < 2 ^ n) : (tabL n a w).getD s 0 = T n a w (clK s n) s := by simp [tabL, List.getD, hs]
theorem tabL_mk {n : Nat} {a : List (Int × Int)} {w : List Int} {p : List Nat} (hp : Pre n p) : (tabL n a w).getD (mk p) 0 = T n a w (n - p.length) (mk p) := by
  rw [tabL_get (mk_lt p hp.2)]
  have := clK_mk p hp
  rw [show clK (mk p) n = n - p.length by omega]
theorem tKg_bd {a : List (Int × Int)} {w : List Int} (hw : Wb a w) {f : Nat → Int} {F : Int} (hF : 0 ≤ F) (hf : ∀ s, -1 ≤ f s ∧ f s ≤ F) (s : Nat) : ∀ k, -1 ≤ tKg a w f s k ∧ tKg a w f s k ≤ 24000000 + F := by
  intro k
  induction k with
  | zero => simp only [tKg]; omega
  | succ k ih =>
    have h1 := sum_bd hw (bwP a k s) (k := a.length) (Nat.le_refl _)
    have h2 := hf (s ||| 2 ^ k)
    have h3 : bw a w k s = sumK w (bwP a k s) a.length := rfl
    unfold tKg
    split
    · exact ih
    · split <;> omega
theorem T_bd {n : Nat} {a : List (Int × Int)} {w : List Int} (hw : Wb a w) : ∀ r s, -1 ≤ T n a w r s ∧ T n a w r s ≤ r * 24000000 := by
  intro r
  induction r with
  | zero => intro s; simp [T]
  | succ r ih =>
    intro s
    have := tKg_bd hw (f := T n a w r) (F := r * 24000000) (by omega) ih s n
    show -1 ≤ tKg a w (T n a w r) s n ∧ tKg a w (T n a w r) s n ≤ _
    omega
theorem r_attribution_costs (n : Nat) (n1 : Bool) (a : List (Int × Int)) (u1 : Tail) (he : Ev n a) (hn9 : n ≤ 9) (x : AV) (w : List Int) (hw0 : Wb a w) (h : AH) (hx : Rd h x w) :
    RCall Tryz.prog n_attribution_costs [I n, .sl n1 a.length (prs a) u1, x] h (.sl false (tabL n a w).length (i64s (tabL n a w)) .unk) := by
  refine RCall.of hm cF_attribution_costs (by simp [g_attribution_costs]) fun hw h' hl => ?_
  have hx := hx.leB hl
  have hM : 2 ^ n ≤ 512 := by
    have : 2 ^ n ≤ 2 ^ 9 := Nat.pow_le_pow_right (by omega) hn9
    simpa using this
  have hM0 : 1 ≤ 2 ^ n := Nat.pow_pos (by omega)
  have hn0 : (0 : Int) ≤ (n : Int) := by omega
  have e1 := shl_one (i := n) (by omega)
  simp only [hn0, e1, F_attribution_costs, g_attribution_costs, go_sem, ↓tq_n, ↓tq_e, ↓tq_r, ↓bq_n, ↓bq_e, ↓bq_r, ↓rq_n, ↓rq_r, ↓rq_e]
  generalize hMM : 2 ^ n = M at hM hM0
  refine MakeG.mk (by omega) (Int.le_refl _) (by omega) (by omega) fun b hb => ?_
  rw [flat_rep]
  simp only [F_attribution_costs, g_attribution_costs, go_sem, ↓tq_n, ↓tq_e, ↓tq_r, ↓bq_n, ↓bq_e, ↓bq_r, ↓rq_n, ↓rq_r, ↓rq_e]
  have hMt : ((M : Int)).toNat = M := by omega
  refine ⟨by rw [inR64]; omega, ?_⟩
  refine awp_loop (α := Nat × List Int) (fun y => [(0, I n), (1, .sl n1 a.length (prs a) u1), (2, x), (7, .msl b 0 M (some M)), (8, I ((y.1 : Int) - 1))]) (fun y => h'.put b (i64s y.2)) (fun y => y.1 ≤ M - 1 ∧ y.2.length = M ∧ ∀ s, y.1 ≤ s → s < M → y.2.getD s 0 = T n a w (clK s n) s) (fun y => y.1) (M - 1, List.replicate M 0)
    ⟨Nat.le_refl _, by simp, fun s h1 h2 => ?_⟩ ?_ fun y hy => .of_vg hm ?_
  · have : s = 2 ^ n - 1 := by omega
    rw [this, clK_full n n (Nat.le_refl _)]
    simp [List.getD, T, show 2 ^ n - 1 < M by omega]
  · simp only [i64s, List.map_replicate]
    rw [show (((M - 1 : Nat) : Int)) - 1 = (M : Int) - 2 by omega]
    exact (GStep.forget (by repeat' first | exact EnvLe.nil _ | refine EnvLe.cons (AV.le.of_eq rfl) ?_ | refine EnvLe.cons (AV.le.undef _) ?_ | refine EnvLe.cons AV.le.unk ?_) (by repeat' first | exact AH.le.refl _ | assumption | (refine AH.le_put ?_ (by first | assumption | exact (AH.blk_put_ne _ _ (by assumption)).trans (by assumption) | exact AH.none_put (by assumption) | exact AH.none_put (AH.none_put (by assumption)) | (simp only [AH.blk_setTok, AH.tok_put] at *; first | assumption | exact AH.none_put (by assumption)))) | (refine AH.le_setTok ?_ (by first | assumption | exact (AH.blk_put_ne _ _ (by assumption)).trans (by assumption) | exact AH.none_put (by assumption) | exact AH.none_put (AH.none_put (by assumption)) | (simp only [AH.blk_setTok, AH.tok_put] at *; first | assumption | exact AH.none_put (by assumption)))) | (refine AH.le_putM ?_ (by first | assumption | exact (AH.mp_putM_ne _ _ (by assumption)).trans (by assumption) | (simp only [AH.mp_put, AH.mp_setTok] at *; assumption)))))
  obtain ⟨j, t⟩ := y
  obtain ⟨h1, h2, h3⟩ := hy
  simp only at h1 h2 h3 ⊢
  have hx1 : Rd (h'.put b (i64s t)) x w := hx.put hb _
  by_cases h4 : j = 0
  · subst h4
    have hc : ¬ (0 : Int) ≤ ((0 : Nat) : Int) - 1 := by omega
    simp only [hc, F_attribution_costs, g_attribution_costs, go_sem, ↓tq_n, ↓tq_e, ↓tq_r, ↓bq_n, ↓bq_e, ↓bq_r, ↓rq_n, ↓rq_r, ↓rq_e]
    have ht : t = tabL n a w := getD_gext 0 (by rw [h2, tabL_len, hMM]) fun s hs => by
      rw [h2] at hs
      rw [h3 s (Nat.zero_le _) hs, tabL_get (by rw [hMM]; exact hs)]
    have := RGh.fix (n := M) (cap := some M) (AH.blk_put h' b (i64s t)) 1
    rw [Nat.mul_one, List.take_of_length_le (by rw [i64s_len, h2]; exact Nat.le_refl _)] at this
    refine ⟨_, h', this.trans (RGh.forget (AV.le.refl _) ?_), ?_, rfl⟩
    · rw [AH.del_put hb]; exact AH.le.refl _
    · rw [tabL_len, hMM, ← ht]
  obtain ⟨s, rfl⟩ : ∃ s, j = s + 1 := ⟨j - 1, by omega⟩
  have hsM : s < M := by omega
  have hc0 : ((s + 1 : Nat) : Int) - 1 = (s : Int) := by omega
  have hc1 : (0 : Int) ≤ (s : Int) := by omega
  have hc2 : (s : Int) < (M : Int) := by omega
  rw [hc0]
  simp only [hc1, hc2, F_attribution_costs, g_attribution_costs, go_sem, ↓tq_n, ↓tq_e, ↓tq_r, ↓bq_n, ↓bq_e, ↓bq_r, ↓rq_n, ↓rq_r, ↓rq_e]
  refine ⟨by rw [i64s_len]; omega, ?_⟩
  obtain ⟨f, hf⟩ : ∃ f : Nat → Int, f = T n a w (clK s n - 1) := ⟨_, rfl⟩
  have hclk : clK s n = (clK s n - 1) + 1 := by
    have : ∃ v, v < n ∧ s.testBit v = false := Classical.byContradiction fun hno => by
      have hall : ∀ v, v < n → s.testBit v = true := fun v hv => by
        cases hb : s.testBit v with
        | true => rfl
        | false => exact absurd ⟨v, hv, hb⟩ hno
      have : 2 ^ n - 1 ≤ s := by
        refine Nat.le_of_testBit ?_
        intro i hi
        rw [Nat.testBit_two_pow_sub_one, decide_eq_true_eq] at hi
        exact hall i hi
      omega
    obtain ⟨v, hv, hb⟩ := this
    have := clK_or hb n
    rw [if_pos hv] at this
    omega
  have hfb : ∀ q, -1 ≤ f q ∧ f q ≤ 9 * 24000000 := fun q => by
    have := T_bd (n := n) hw0 (clK s n - 1) q
    have := clK_le s n
    rw [hf]
    omega
  have hfs : ∀ v, v < n → s.testBit v = false → (s ||| 2 ^ v) < M ∧ s < (s ||| 2 ^ v) ∧ t.getD (s ||| 2 ^ v) 0 = f (s ||| 2 ^ v) := fun v hv hb => by
    have h5 : s ||| 2 ^ v < M := by rw [← hMM]; exact Nat.or_lt_two_pow (by rw [hMM]; exact hsM) (Nat.pow_lt_pow_right (by omega) hv)
    have h6 := or_gt hb
    refine ⟨h5, h6, ?_⟩
    rw [h3 _ (by omega) h5, hf]
    have := clK_or hb n
    rw [if_pos hv] at this
    rw [show clK (s ||| 2 ^ v) n = clK s n - 1 by omega]
  refine awp_loop (α := Nat × List Int) (fun y => [(0, I n), (1, .sl n1 a.length (prs a) u1), (2, x), (7, .msl b 0 M (some M)), (8, I s), (24, I n), (25, I y.1)]) (fun y => h'.put b (i64s y.2)) (fun y => y.1 ≤ n ∧ y.2 = t.set s (tKg a w f s y.1)) (fun y => n - y.1) (0, t.set s (-1)) ⟨Nat.zero_le _, rfl⟩ (by rw [i64s_set]; exact (GStep.forget (by repeat' first | exact EnvLe.nil _ | refine EnvLe.cons (AV.le.of_eq rfl) ?_ | refine EnvLe.cons (AV.le.undef _) ?_ | refine EnvLe.cons AV.le.unk ?_) (by repeat' first | exact AH.le.refl _ | assumption | (refine AH.le_put ?_ (by first | assumption | exact (AH.blk_put_ne _ _ (by assumption)).trans (by assumption) | exact AH.none_put (by assumption) | exact AH.none_put (AH.none_put (by assumption)) | (simp only [AH.blk_setTok, AH.tok_put] at *; first | assumption | exact AH.none_put (by assumption)))) | (refine AH.le_setTok ?_ (by first | assumption | exact (AH.blk_put_ne _ _ (by assumption)).trans (by assumption) | exact AH.none_put (by assumption) | exact AH.none_put (AH.none_put (by assumption)) | (simp only [AH.blk_setTok, AH.tok_put] at *; first | assumption | exact AH.none_put (by assumption)))) | (refine AH.le_putM ?_ (by first | assumption | exact (AH.mp_putM_ne _ _ (by assumption)).trans (by assumption) | (simp only [AH.mp_put, AH.mp_setTok] at *; assumption)))))) fun y hy => .of_vg hm ?_
  obtain ⟨v, t'⟩ := y
  obtain ⟨h5, h6⟩ := hy
  simp only at h5 h6 ⊢
  have hx2 : Rd (h'.put b (i64s t')) x w := hx.put hb _
  have hts : ∀ X q, (t.set s X).getD q 0 = if s = q then X else t.getD q 0 := fun X q => getD_setI (by omega) X q
  by_cases h7 : v < n
  case neg =>
    have h7 : v = n := by omega
    subst h7
    simp only [F_attribution_costs, g_attribution_costs, go_sem, ↓tq_n, ↓tq_e, ↓tq_r, ↓bq_n, ↓bq_e, ↓bq_r, ↓rq_n, ↓rq_r, ↓rq_e]
    refine ⟨by rw [inR64]; omega, (s, t'), ⟨by simp only; omega, by simp only; rw [h6, List.length_set]; exact h2, fun q h8 h9 => ?_⟩, by simp only; omega, (GStep.forget (by repeat' first | exact EnvLe.nil _ | refine EnvLe.cons (AV.le.of_eq rfl) ?_ | refine EnvLe.cons (AV.le.undef _) ?_ | refine EnvLe.cons AV.le.unk ?_) (by repeat' first | exact AH.le.refl _ | assumption | (refine AH.le_put ?_ (by first | assumption | exact (AH.blk_put_ne _ _ (by assumption)).trans (by assumption) | exact AH.none_put (by assumption) | exact AH.none_put (AH.none_put (by assumption)) | (simp only [AH.blk_setTok, AH.tok_put] at *; first | assumption | exact AH.none_put (by assumption)))) | (refine AH.le_setTok ?_ (by first | assumption | exact (AH.blk_put_ne _ _ (by assumption)).trans (by assumption) | exact AH.none_put (by assumption) | exact AH.none_put (AH.none_put (by assumption)) | (simp only [AH.blk_setTok, AH.tok_put] at *; first | assumption | exact AH.none_put (by assumption)))) | (refine AH.le_putM ?_ (by first | assumption | exact (AH.mp_putM_ne _ _ (by assumption)).trans (by assumption) | (simp only [AH.mp_put, AH.mp_setTok] at *; assumption)))))⟩
    simp only at h8 ⊢
    rw [h6, hts]
    by_cases hq : s = q
    · subst hq
      rw [if_pos rfl, hclk, hf]
      rfl
    · rw [if_neg hq]; exact h3 q (by omega) h9
  have hcv : (v : Int) < (n : Int) := by omega
  have hv0 : (0 : Int) ≤ (v : Int) := by omega
  have e0 := bit_at (m := s) (i := v) (by omega) (by omega)
  have htb := tKg_bd hw0 (F := 9 * 24000000) (by omega) hfb s v
  have hnext : tKg a w f s (v + 1) = if s.testBit v then tKg a w f s v else if tKg a w f s v < 0 ∨ bw a w v s + f (s ||| 2 ^ v) < tKg a w f s v then bw a w v s + f (s ||| 2 ^ v) else tKg a w f s v := rfl
  have hl' : t'.length = M := by rw [h6, List.length_set]; exact h2
  have hsl : s < t'.length := by omega
  have g1 : t'.getD s 0 = tKg a w f s v := by rw [h6, hts, if_pos rfl]
  cases hb2 : s.testBit v with
  | true =>
    rw [hb2, if_pos rfl] at hnext
    rw [hb2] at e0
    simp only [hcv, hv0, e0, F_attribution_costs, g_attribution_costs, go_sem, ↓tq_n, ↓tq_e, ↓tq_r, ↓bq_n, ↓bq_e, ↓bq_r, ↓rq_n, ↓rq_r, ↓rq_e]
    exact ⟨by rw [inR64]; omega, (v + 1, t'), ⟨by simp only; omega, by simp only; rw [hnext]; exact h6⟩, by simp only; omega, (GStep.forget (by repeat' first | exact EnvLe.nil _ | refine EnvLe.cons (AV.le.of_eq rfl) ?_ | refine EnvLe.cons (AV.le.undef _) ?_ | refine EnvLe.cons AV.le.unk ?_) (by repeat' first | exact AH.le.refl _ | assumption | (refine AH.le_put ?_ (by first | assumption | exact (AH.blk_put_ne _ _ (by assumption)).trans (by assumption) | exact AH.none_put (by assumption) | exact AH.none_put (AH.none_put (by assumption)) | (simp only [AH.blk_setTok, AH.tok_put] at *; first | assumption | exact AH.none_put (by assumption)))) | (refine AH.le_setTok ?_ (by first | assumption | exact (AH.blk_put_ne _ _ (by assumption)).trans (by assumption) | exact AH.none_put (by assumption) | exact AH.none_put (AH.none_put (by assumption)) | (simp only [AH.blk_setTok, AH.tok_put] at *; first | assumption | exact AH.none_put (by assumption)))) | (refine AH.le_putM ?_ (by first | assumption | exact (AH.mp_putM_ne _ _ (by assumption)).trans (by assumption) | (simp only [AH.mp_put, AH.mp_setTok] at *; assumption)))))⟩
  | false =>
    rw [hb2, if_neg (by decide)] at hnext
    rw [hb2] at e0
    obtain ⟨k1, k2, k3⟩ := hfs v h7 hb2
    have g2 : t'.getD (s ||| 2 ^ v) 0 = f (s ||| 2 ^ v) := by rw [h6, hts, if_neg (by omega), k3]
    have e2 := shl_one (i := v) (by omega)
    have hp2 : 2 ^ v < 9223372036854775808 := by
      have : 2 ^ v ≤ 2 ^ 9 := Nat.pow_le_pow_right (by omega) (by omega)
      omega
    have e3 := Abs.bit_or (x := s) (y := 2 ^ v) (by omega) hp2
    have hbw := sum_bd hw0 (bwP a v s) (k := a.length) (Nat.le_refl _)
    have hbw2 : bw a w v s = sumK w (bwP a v s) a.length := rfl
    have hfv := hfb (s ||| 2 ^ v)
    have hq0 : (0 : Int) ≤ ((s ||| 2 ^ v : Nat) : Int) := by omega
    have hqM : ((s ||| 2 ^ v : Nat) : Int) < (M : Int) := by omega
    have hss : ∀ X : Int, (i64s t').set s (AV.int .i64 X) = i64s (t.set s X) := fun X => by rw [← i64s_set, h6, List.set_set]
    simp only [hcv, hv0, e0, F_attribution_costs, g_attribution_costs, go_sem, ↓tq_n, ↓tq_e, ↓tq_r, ↓bq_n, ↓bq_e, ↓bq_r, ↓rq_n, ↓rq_r, ↓rq_e]
    refine CallG.mk (r_attribution_backward n n1 a u1 he x w v s h7 (by omega) hw0 _ hx2) ?_
    generalize bw a w v s = B at hbw2 hnext ⊢
    generalize f (s ||| 2 ^ v) = fv at hfv hnext g2 ⊢
    generalize tKg a w f s v = tv at htb hnext g1 h6 ⊢
    have hql : (s ||| 2 ^ v) < t'.length := by omega
    by_cases cA : tv < 0
    · rw [if_pos (.inl cA)] at hnext
      simp only [hv0, e2, e3, hq0, hqM, i64s_drop hql, g2, hc1, hc2, i64s_drop hsl, g1, cA, F_attribution_costs, g_attribution_costs, go_sem, ↓tq_n, ↓tq_e, ↓tq_r, ↓bq_n, ↓bq_e, ↓bq_r, ↓rq_n, ↓rq_r, ↓rq_e]
      refine ⟨by rw [inR64]; omega, by rw [i64s_len]; omega, by rw [inR64]; omega, (v + 1, t.set s (B + fv)), ⟨by simp only; omega, by simp only; rw [hnext]⟩, by simp only; omega, ?_⟩
      rw [hss]
      exact (GStep.forget (by repeat' first | exact EnvLe.nil _ | refine EnvLe.cons (AV.le.of_eq rfl) ?_ | refine EnvLe.cons (AV.le.undef _) ?_ | refine EnvLe.cons AV.le.unk ?_) (by repeat' first | exact AH.le.refl _ | assumption | (refine AH.le_put ?_ (by first | assumption | exact (AH.blk_put_ne _ _ (by assumption)).trans (by assumption) | exact AH.none_put (by assumption) | exact AH.none_put (AH.none_put (by assumption)) | (simp only [AH.blk_setTok, AH.tok_put] at *; first | assumption | exact AH.none_put (by assumption)))) | (refine AH.le_setTok ?_ (by first | assumption | exact (AH.blk_put_ne _ _ (by assumption)).trans (by assumption) | exact AH.none_put (by assumption) | exact AH.none_put (AH.none_put (by assumption)) | (simp only [AH.blk_setTok, AH.tok_put] at *; first | assumption | exact AH.none_put (by assumption)))) | (refine AH.le_putM ?_ (by first | assumption | exact (AH.mp_putM_ne _ _ (by assumption)).trans (by assumption) | (simp only [AH.mp_put, AH.mp_setTok] at *; assumption)))))
    · by_cases cB : B + fv < tv
      · rw [if_pos (.inr cB)] at hnext
        simp only [hv0, e2, e3, hq0, hqM, i64s_drop hql, g2, hc1, hc2, i64s_drop hsl, g1, cA, cB, F_attribution_costs, g_attribution_costs, go_sem, ↓tq_n, ↓tq_e, ↓tq_r, ↓bq_n, ↓bq_e, ↓bq_r, ↓rq_n, ↓rq_r, ↓rq_e]
        refine ⟨by rw [inR64]; omega, by rw [i64s_len]; omega, by rw [inR64]; omega, (v + 1, t.set s (B + fv)), ⟨by simp only; omega, by simp only; rw [hnext]⟩, by simp only; omega, ?_⟩
        rw [hss]
        exact (GStep.forget (by repeat' first | exact EnvLe.nil _ | refine EnvLe.cons (AV.le.of_eq rfl) ?_ | refine EnvLe.cons (AV.le.undef _) ?_ | refine EnvLe.cons AV.le.unk ?_) (by repeat' first | exact AH.le.refl _ | assumption | (refine AH.le_put ?_ (by first | assumption | exact (AH.blk_put_ne _ _ (by assumption)).trans (by assumption) | exact AH.none_put (by assumption) | exact AH.none_put (AH.none_put (by assumption)) | (simp only [AH.blk_setTok, AH.tok_put] at *; first | assumption | exact AH.none_put (by assumption)))) | (refine AH.le_setTok ?_ (by first | assumption | exact (AH.blk_put_ne _ _ (by assumption)).trans (by assumption) | exact AH.none_put (by assumption) | exact AH.none_put (AH.none_put (by assumption)) | (simp only [AH.blk_setTok, AH.tok_put] at *; first | assumption | exact AH.none_put (by assumption)))) | (refine AH.le_putM ?_ (by first | assumption | exact (AH.mp_putM_ne _ _ (by assumption)).trans (by assumption) | (simp only [AH.mp_put, AH.mp_setTok] at *; assumption)))))
      · rw [if_neg (fun hh => by rcases hh with hh | hh; exact cA hh; exact cB hh)] at hnext
        simp only [hv0, e2, e3, hq0, hqM, i64s_drop hql, g2, hc1, hc2, i64s_drop hsl, g1, cA, cB, F_attribution_costs, g_attribution_costs, go_sem, ↓tq_n, ↓tq_e, ↓tq_r, ↓bq_n, ↓bq_e, ↓bq_r, ↓rq_n, ↓rq_r, ↓rq_e]
        exact ⟨by rw [inR64]; omega, by rw [inR64]; omega, (v + 1, t'), ⟨by simp only; omega, by simp only; rw [hnext]; exact h6⟩, by simp only; omega, (GStep.forget (by repeat' first | exact EnvLe.nil _ | refine EnvLe.cons (AV.le.of_eq rfl) ?_ | refine EnvLe.cons (AV.le.undef _) ?_ | refine EnvLe.cons AV.le.unk ?_) (by repeat' first | exact AH.le.refl _ | assumption | (refine AH.le_put ?_ (by first | assumption | exact (AH.blk_put_ne _ _ (by assumption)).trans (by assumption) | exact AH.none_put (by assumption) | exact AH.none_put (AH.none_put (by assumption)) | (simp only [AH.blk_setTok, AH.tok_put] at *; first | assumption | exact AH.none_put (by assumption)))) | (refine AH.le_setTok ?_ (by first | assumption | exact (AH.blk_put_ne _ _ (by assumption)).trans (by assumption) | exact AH.none_put (by assumption) | exact AH.none_put (AH.none_put (by assumption)) | (simp only [AH.blk_setTok, AH.tok_put] at *; first | assumption | exact AH.none_put (by assumption)))) | (refine AH.le_putM ?_ (by first | assumption | exact (AH.mp_putM_ne _ _ (by assumption)).trans (by assumption) | (simp only [AH.mp_put, AH.mp_setTok] at *; assumption)))))⟩
end Go.Proofs.YtidmekdkfiljjaaGreat
namespace Go.Proofs.YtidmekdkfiljjaaGreat
open Go Go.Abs
set_option linter.unusedSimpArgs false
set_option linter.unusedVariables false
set_option maxRecDepth 20000

theorem s_Clone_empty (nl : Bool) (tl : Tail) (h : AH) : ∃ r, RCall Tryz.prog n_slices_Clone_intX [.sl nl 0 (i64s []) tl] h r := by
  refine ⟨.sl nl 0 [] .unk, RCall.of hm cF_slices_Clone_intX (by simp [g_slices_Clone_intX]) fun hw h' hl => ?_⟩
  cases nl with
  | true =>
    simp only [F_slices_Clone_intX, g_slices_Clone_intX, go_sem, ↓tq_n, ↓tq_e, ↓tq_r, ↓bq_n, ↓bq_e, ↓bq_r, ↓rq_n, ↓rq_r, ↓rq_e]
    exact ret_le (AH.le.refl _) AV.le.unk
  | false =>
    simp only [F_slices_Clone_intX, g_slices_Clone_intX, go_sem, ↓tq_n, ↓tq_e, ↓tq_r, ↓bq_n, ↓bq_e, ↓bq_r, ↓rq_n, ↓rq_r, ↓rq_e]
    refine ⟨rfl, TokG.mk fun t ht => ?_⟩
    simp only [F_slices_Clone_intX, g_slices_Clone_intX, go_sem, ↓tq_n, ↓tq_e, ↓tq_r, ↓bq_n, ↓bq_e, ↓bq_r, ↓rq_n, ↓rq_r, ↓rq_e]
    exact ret_le (AH.le_setTok (AH.le.refl _) ht) AV.le.unk
theorem tot_tab {n : Nat} {a : List (Int × Int)} {w : List Int} : (tabL n a w).getD 0 0 = tot n a w := by
  rw [tabL_get (Nat.pow_pos (by omega)), clK_zero]
  rfl
def leV (n : Int) (a : List (Int × Int)) (w : List Int) : AV := if chkE n a w = 0 then .tup [gl (i64s (nats (lsK n.toNat a w a.length).1)) (nats (lsK n.toNat a w a.length).1).length .unk, I (tot n.toNat a w), I 0] else .tup [.sl true 0 [] .full, I 0, I (chkE n a w)]
theorem tup3_le {a b c a' : AV} (h : AV.le a' a) : AV.le (.tup [a', b, c]) (.tup [a, b, c]) := AV.le.tupC (.cons h (.cons (AV.le.refl _) (.cons (AV.le.refl _) .nil)))
theorem inv_wb {n : Nat} {a : List (Int × Int)} {w : List Int} (hw : W1 a w) {i : Nat} {O : List Nat} {S : Int} {L : List Int} (k : Inv n a w i O S L) (hi : i < a.length) {v : Int} (hv : 0 ≤ v ∧ v ≤ 1000000) : Wb a (L.set i v) := by
  refine ⟨by rw [List.length_set, k.len, hw.1], hw.2.1, fun j hj => ?_⟩
  rw [set_at hw k.len hi]
  split
  · exact hv
  · rw [k.at_ j hj]
    have := hw.2.2 j hj
    split
    · split <;> omega
    · omega
theorem inv_sum {n : Nat} {a : List (Int × Int)} {w : List Int} (hw : W1 a w) {i : Nat} {O : List Nat} {S : Int} {L : List Int} (k : Inv n a w i O S L) : 0 ≤ S ∧ S ≤ 24000000 := by
  rw [k.sum]
  exact sum_bd hw.wb _ (Nat.le_refl _)
theorem inv_len {n : Nat} {a : List (Int × Int)} {w : List Int} {i : Nat} {O : List Nat} {S : Int} {L : List Int} (k : Inv n a w i O S L) : O.length ≤ i := nd_lenN (k.asc.imp fun h => by omega) k.lt
set_option maxHeartbeats 2000000 in
theorem r_attribution_LeastF (n : Int) (n1 : Bool) (a : List (Int × Int)) (u1 : Tail) (n2 : Bool) (w : List Int) (u2 : Tail) (hnl : 0 < w.length → n2 = false) (h : AH) : RCall Tryz.prog n_attribution_Least [I n, .sl n1 a.length (prs a) u1, .sl n2 w.length (i64s w) u2] h (leV n a w) := by
  refine RCall.of hm cF_attribution_Least (by simp [g_attribution_Least]) fun hwf h' hl => ?_
  simp only [F_attribution_Least, g_attribution_Least, go_sem, ↓tq_n, ↓tq_e, ↓tq_r, ↓bq_n, ↓bq_e, ↓bq_r, ↓rq_n, ↓rq_r, ↓rq_e]
  refine CallG.mk (r_attribution_check n n1 a u1 n2 w u2 _) ?_
  by_cases c1 : chkE n a w = 0
  case neg =>
    simp only [c1, F_attribution_Least, g_attribution_Least, go_sem, ↓tq_n, ↓tq_e, ↓tq_r, ↓bq_n, ↓bq_e, ↓bq_r, ↓rq_n, ↓rq_r, ↓rq_e]
    exact ret_ok (by simp [leV, c1])
  have hok := chk_ok.1 c1
  obtain ⟨m, rfl⟩ := ev_nat hok.2.2.1
  have hw1 := okc_w1 hok
  have he := hok.2.2.1
  have hm9 : m ≤ 9 := by have := hok.1; omega
  have hal := hok.2.1
  have hwl := hw1.1
  have hM0 : 1 ≤ 2 ^ m := Nat.pow_pos (by omega)
  have htl : ∀ w, (tabL m a w).length = 2 ^ m := fun w => tabL_len m a w
  have hz : ∀ w, (0 : Int) < ((tabL m a w).length : Int) := fun w => by rw [htl]; omega
  have hd : ∀ w, (i64s (tabL m a w)).drop (0 * 1) = I (tot m a w) :: (i64s (tabL m a w)).drop (0 + 1) := fun w => by
    rw [Nat.zero_mul, i64s_drop (show 0 < (tabL m a w).length by rw [htl]; omega), tot_tab]
  have hd' : ∀ w, i64s (tabL m a w) = I (tot m a w) :: (i64s (tabL m a w)).drop (0 + 1) := fun w => by
    have := hd w
    rwa [Nat.zero_mul, List.drop_zero] at this
  simp only [c1, F_attribution_Least, g_attribution_Least, go_sem, ↓tq_n, ↓tq_e, ↓tq_r, ↓bq_n, ↓bq_e, ↓bq_r, ↓rq_n, ↓rq_r, ↓rq_e]
  refine CallG.mk (r_attribution_costs m n1 a u1 he hm9 _ w hw1.wb _ (Rd.sl _ n2 w u2)) ?_
  have hle0 : leV m a w = .tup [gl (i64s (nats (lsK m a w a.length).1)) (nats (lsK m a w a.length).1).length .unk, I (tot m a w), I 0] := by
    unfold leV; rw [if_pos c1, Int.toNat_natCast]
  rcases Nat.eq_zero_or_pos a.length with ha0 | ha0
  · have hw0 : w = [] := List.eq_nil_of_length_eq_zero (by omega)
    subst hw0
    obtain ⟨r0, hr0⟩ := s_Clone_empty n2 u2 h'
    rw [hd' []]
    simp only [hz, List.drop_zero, F_attribution_Least, g_attribution_Least, go_sem, ↓tq_n, ↓tq_e, ↓tq_r, ↓bq_n, ↓bq_e, ↓bq_r, ↓rq_n, ↓rq_r, ↓rq_e]
    refine CallS.mk (hr0 h' (AH.leB.refl _)) fun r g hr => ?_
    obtain ⟨rfl, rfl⟩ := hr
    simp only [F_attribution_Least, g_attribution_Least, go_sem, ↓tq_n, ↓tq_e, ↓tq_r, ↓bq_n, ↓bq_e, ↓bq_r, ↓rq_n, ↓rq_r, ↓rq_e]
    refine awp_loop (fun i : Nat => [(10, I (tot m a [])), (12, .sl true 0 [] .full), (31, I 0), (32, I 0)]) (fun _ => g) (fun i => True) (fun i => 0) 0 trivial (by rw [show ((a.length : Nat) : Int) = 0 by omega]; exact (GStep.forget (by repeat' first | exact EnvLe.nil _ | refine EnvLe.cons (AV.le.of_eq rfl) ?_ | refine EnvLe.cons (AV.le.undef _) ?_ | refine EnvLe.cons AV.le.unk ?_) (by repeat' first | exact AH.le.refl _ | assumption | (refine AH.le_put ?_ (by first | assumption | exact (AH.blk_put_ne _ _ (by assumption)).trans (by assumption) | exact AH.none_put (by assumption) | exact AH.none_put (AH.none_put (by assumption)) | (simp only [AH.blk_setTok, AH.tok_put] at *; first | assumption | exact AH.none_put (by assumption)))) | (refine AH.le_setTok ?_ (by first | assumption | exact (AH.blk_put_ne _ _ (by assumption)).trans (by assumption) | exact AH.none_put (by assumption) | exact AH.none_put (AH.none_put (by assumption)) | (simp only [AH.blk_setTok, AH.tok_put] at *; first | assumption | exact AH.none_put (by assumption)))) | (refine AH.le_putM ?_ (by first | assumption | exact (AH.mp_putM_ne _ _ (by assumption)).trans (by assumption) | (simp only [AH.mp_put, AH.mp_setTok] at *; assumption)))))) fun i hi => .of_vg hm ?_
    simp only [F_attribution_Least, g_attribution_Least, go_sem, ↓tq_n, ↓tq_e, ↓tq_r, ↓bq_n, ↓bq_e, ↓bq_r, ↓rq_n, ↓rq_r, ↓rq_e]
    refine ret_le (AH.le.refl _) ?_
    rw [hle0, ha0]
    exact tup3_le AV.le.unk
  have hn2 : n2 = false := hnl (by omega)
  subst hn2
  rw [hd' w]
  simp only [hz, List.drop_zero, F_attribution_Least, g_attribution_Least, go_sem, ↓tq_n, ↓tq_e, ↓tq_r, ↓bq_n, ↓bq_e, ↓bq_r, ↓rq_n, ↓rq_r, ↓rq_e]
  refine CallS.mk (s_slices_Clone_int false w u2 rfl (by omega) (by omega) _) fun r g hr => ?_
  obtain ⟨b, q, hq, hb, rfl, rfl⟩ := hr
  have hcl : (i64s w ++ List.replicate (q - w.length) AV.undef) = i64s w ++ List.replicate (q - w.length) AV.undef := rfl
  generalize List.replicate (q - w.length) AV.undef = und
  simp only [F_attribution_Least, g_attribution_Least, go_sem, ↓tq_n, ↓tq_e, ↓tq_r, ↓bq_n, ↓bq_e, ↓bq_r, ↓rq_n, ↓rq_r, ↓rq_e]
  refine awp_tok 12 1 (nl := true) (n := 0) (cs := []) rfl fun t ht => ?_
  refine awp_loop (fun i : Nat => [(0, I m), (1, .sl n1 a.length (prs a) u1), (2, .sl false w.length (i64s w) u2), (10, I (tot m a w)), (11, .msl b 0 w.length (some q)), (12, gl (i64s (nats (lsK m a w i).1)) (nats (lsK m a w i).1).length (.tok t)), (13, I (lsK m a w i).2.1), (31, I a.length), (32, I i)]) (fun i => (h'.setTok t (nats (lsK m a w i).1).length 1).put b (i64s (lsK m a w i).2.2 ++ und)) (fun i => i ≤ a.length) (fun i => a.length - i) 0 (Nat.zero_le _) (GStep.forget (by repeat' first | exact EnvLe.nil _ | refine EnvLe.cons (AV.le.of_eq rfl) ?_ | refine EnvLe.cons (AV.le.undef _) ?_ | refine EnvLe.cons AV.le.unk ?_) (by repeat' first | exact AH.le.refl _ | assumption | (refine AH.le_put ?_ (by first | assumption | exact (AH.blk_put_ne _ _ (by assumption)).trans (by assumption) | exact AH.none_put (by assumption) | exact AH.none_put (AH.none_put (by assumption)) | (simp only [AH.blk_setTok, AH.tok_put] at *; first | assumption | exact AH.none_put (by assumption)))) | (refine AH.le_setTok ?_ (by first | assumption | exact (AH.blk_put_ne _ _ (by assumption)).trans (by assumption) | exact AH.none_put (by assumption) | exact AH.none_put (AH.none_put (by assumption)) | (simp only [AH.blk_setTok, AH.tok_put] at *; first | assumption | exact AH.none_put (by assumption)))) | (refine AH.le_putM ?_ (by first | assumption | exact (AH.mp_putM_ne _ _ (by assumption)).trans (by assumption) | (simp only [AH.mp_put, AH.mp_setTok] at *; assumption))))) fun i hi => .of_vg hm ?_
  have k := lsK_inv (n := m) hw1 i hi
  have hsucc : lsK m a w (i + 1) = if (lsK m a w i).2.1 + w.getD i 0 + tot m a ((lsK m a w i).2.2.set i 0) = tot m a w
      then ((lsK m a w i).1 ++ [i], (lsK m a w i).2.1 + w.getD i 0, (lsK m a w i).2.2.set i 0)
      else ((lsK m a w i).1, (lsK m a w i).2.1, ((lsK m a w i).2.2.set i 0).set i 1000000) := rfl
  have hOl := inv_len k
  have hS := inv_sum hw1 k
  by_cases h3 : i < a.length
  case neg =>
    have h3 : i = a.length := by omega
    subst h3
    simp only [F_attribution_Least, g_attribution_Least, go_sem, ↓tq_n, ↓tq_e, ↓tq_r, ↓bq_n, ↓bq_e, ↓bq_r, ↓rq_n, ↓rq_r, ↓rq_e]
    refine ret_le (AH.le_put (AH.le_setTok (AH.le.refl _) (by exact ht)) hb) ?_
    rw [hle0]
    exact tup3_le .glU
  have hwb := inv_wb hw1 k h3 (v := 0) ⟨by omega, by omega⟩
  have htt := tot_min (n := m) hwb.ok
  have hLl := k.len
  generalize lsK m a w i = st at k hsucc hOl hS hwb htt hLl ⊢
  obtain ⟨O, S, L⟩ := st
  simp only at k hsucc hOl hS hwb htt hLl ⊢
  have hc : (i : Int) < (a.length : Int) := by omega
  have hcw : (i : Int) < (w.length : Int) := by omega
  have hi0 : (0 : Int) ≤ (i : Int) := by omega
  have hw' := hw1.2.2 i h3
  have hset : ∀ (L : List Int) (v : Int), L.length = w.length → (i64s L ++ und).set i (I v) = i64s (L.set i v) ++ und := fun L v hL => by
    rw [List.set_append, if_pos (by rw [i64s_len]; omega), i64s_set]
  have hnl := nats_len O
  have hrd : Rd ((h'.setTok t (nats O).length 1).put b (i64s (L.set i 0) ++ und)) (.msl b 0 w.length (some q)) (L.set i 0) :=
    .inr ⟨b, some q, und, by rw [List.length_set, hLl], AH.blk_put _ _ _⟩
  have hT : tot m a (L.set i 0) ≤ 24 * 24000000 := by
    have := T_bd (n := m) hwb m 0
    unfold tot
    omega
  simp only [hc, hcw, hi0, hset L 0 hLl, F_attribution_Least, g_attribution_Least, go_sem, ↓tq_n, ↓tq_e, ↓tq_r, ↓bq_n, ↓bq_e, ↓bq_r, ↓rq_n, ↓rq_r, ↓rq_e]
  refine ⟨by rw [List.length_append, i64s_len]; omega, ?_⟩
  simp only [hcw, hi0, i64s_drop (show i < w.length by omega), F_attribution_Least, g_attribution_Least, go_sem, ↓tq_n, ↓tq_e, ↓tq_r, ↓bq_n, ↓bq_e, ↓bq_r, ↓rq_n, ↓rq_r, ↓rq_e]
  refine ⟨by rw [inR64]; omega, CallG.mk (r_attribution_costs m n1 a u1 he hm9 _ _ hwb _ hrd) ?_⟩
  rw [hd' (L.set i 0)]
  by_cases c2 : S + w.getD i 0 + tot m a (L.set i 0) = tot m a w
  · rw [if_pos c2] at hsucc
    simp only [hz, List.drop_zero, decide_eq_true c2, hcw, hi0, i64s_drop (show i < w.length by omega), F_attribution_Least, g_attribution_Least, go_sem, ↓tq_n, ↓tq_e, ↓tq_r, ↓bq_n, ↓bq_e, ↓bq_r, ↓rq_n, ↓rq_r, ↓rq_e]
    refine ⟨by rw [inR64]; omega, by rw [i64s_len], by omega, by omega, by rw [inR64]; omega, by rw [inR64]; omega, i + 1, by omega, by omega, ?_⟩
    rw [hsucc, nats_append, i64s_append, List.length_append]
    exact (GStep.forget (by repeat' first | exact EnvLe.nil _ | refine EnvLe.cons (AV.le.of_eq rfl) ?_ | refine EnvLe.cons (AV.le.undef _) ?_ | refine EnvLe.cons AV.le.unk ?_) (by repeat' first | exact AH.le.refl _ | assumption | (refine AH.le_put ?_ (by first | assumption | exact (AH.blk_put_ne _ _ (by assumption)).trans (by assumption) | exact AH.none_put (by assumption) | exact AH.none_put (AH.none_put (by assumption)) | (simp only [AH.blk_setTok, AH.tok_put] at *; first | assumption | exact AH.none_put (by assumption)))) | (refine AH.le_setTok ?_ (by first | assumption | exact (AH.blk_put_ne _ _ (by assumption)).trans (by assumption) | exact AH.none_put (by assumption) | exact AH.none_put (AH.none_put (by assumption)) | (simp only [AH.blk_setTok, AH.tok_put] at *; first | assumption | exact AH.none_put (by assumption)))) | (refine AH.le_putM ?_ (by first | assumption | exact (AH.mp_putM_ne _ _ (by assumption)).trans (by assumption) | (simp only [AH.mp_put, AH.mp_setTok] at *; assumption)))))
  · rw [if_neg c2] at hsucc
    simp only [hz, List.drop_zero, c2, hcw, hi0, F_attribution_Least, g_attribution_Least, go_sem, ↓tq_n, ↓tq_e, ↓tq_r, ↓bq_n, ↓bq_e, ↓bq_r, ↓rq_n, ↓rq_r, ↓rq_e]
    refine ⟨by rw [inR64]; omega, by rw [List.length_append, i64s_len, List.length_set]; omega, by rw [inR64]; omega, i + 1, by omega, by omega, ?_⟩
    rw [hsucc, hset (L.set i 0) 1000000 (by rw [List.length_set, hLl])]
    exact (GStep.forget (by repeat' first | exact EnvLe.nil _ | refine EnvLe.cons (AV.le.of_eq rfl) ?_ | refine EnvLe.cons (AV.le.undef _) ?_ | refine EnvLe.cons AV.le.unk ?_) (by repeat' first | exact AH.le.refl _ | assumption | (refine AH.le_put ?_ (by first | assumption | exact (AH.blk_put_ne _ _ (by assumption)).trans (by assumption) | exact AH.none_put (by assumption) | exact AH.none_put (AH.none_put (by assumption)) | (simp only [AH.blk_setTok, AH.tok_put] at *; first | assumption | exact AH.none_put (by assumption)))) | (refine AH.le_setTok ?_ (by first | assumption | exact (AH.blk_put_ne _ _ (by assumption)).trans (by assumption) | exact AH.none_put (by assumption) | exact AH.none_put (AH.none_put (by assumption)) | (simp only [AH.blk_setTok, AH.tok_put] at *; first | assumption | exact AH.none_put (by assumption)))) | (refine AH.le_putM ?_ (by first | assumption | exact (AH.mp_putM_ne _ _ (by assumption)).trans (by assumption) | (simp only [AH.mp_put, AH.mp_setTok] at *; assumption)))))
theorem r_attribution_Least (n : Int) (n1 : Bool) (a : List (Int × Int)) (u1 : Tail) (n2 : Bool) (w : List Int) (u2 : Tail) (h : AH) : RCall Tryz.prog n_attribution_Least [I n, .sl n1 a.length (prs a) u1, .sl n2 w.length (i64s w) u2] h (leV n a w) := by
  by_cases hc : n2 = true ∧ 0 < w.length
  · obtain ⟨rfl, h2⟩ := hc
    exact RCall.nil_vac (pre := [I n, .sl n1 a.length (prs a) u1]) (by kernel_rfl) h2
  · exact r_attribution_LeastF n n1 a u1 n2 w u2 (fun h2 => by cases n2 with | false => rfl | true => exact absurd ⟨rfl, h2⟩ hc) h

/-! The best order. -/
def orV (n : Int) (a : List (Int × Int)) (w : List Int) : AV := if chkE n a w = 0 then .tup [gl (i64s (nats (gO n.toNat a w n.toNat []))) (nats (gO n.toNat a w n.toNat [])).length .unk, I (tot n.toNat a w), I 0] else .tup [.sl true 0 [] .full, I 0, I (chkE n a w)]
theorem r_attribution_Ordered (n : Int) (n1 : Bool) (a : List (Int × Int)) (u1 : Tail) (n2 : Bool) (w : List Int) (u2 : Tail) (h : AH) : RCall Tryz.prog n_attribution_Ordered [I n, .sl n1 a.length (prs a) u1, .sl n2 w.length (i64s w) u2] h (orV n a w) := by
  refine RCall.of hm cF_attribution_Ordered (by simp [g_attribution_Ordered]) fun hwf h' hl => ?_
  simp only [F_attribution_Ordered, g_attribution_Ordered, go_sem, ↓tq_n, ↓tq_e, ↓tq_r, ↓bq_n, ↓bq_e, ↓bq_r, ↓rq_n, ↓rq_r, ↓rq_e]
  refine CallG.mk (r_attribution_check n n1 a u1 n2 w u2 _) ?_
  by_cases c1 : chkE n a w = 0
  case neg =>
    simp only [c1, F_attribution_Ordered, g_attribution_Ordered, go_sem, ↓tq_n, ↓tq_e, ↓tq_r, ↓bq_n, ↓bq_e, ↓bq_r, ↓rq_n, ↓rq_r, ↓rq_e]
    exact ret_ok (by simp [orV, c1])
  have hok := chk_ok.1 c1
  obtain ⟨m, rfl⟩ := ev_nat hok.2.2.1
  have hw1 := okc_w1 hok
  have he := hok.2.2.1
  have hm9 : m ≤ 9 := by have := hok.1; omega
  have hal := hok.2.1
  have hM0 : 1 ≤ 2 ^ m := Nat.pow_pos (by omega)
  have hM1 : 2 ^ m ≤ 512 := by
    have : 2 ^ m ≤ 2 ^ 9 := Nat.pow_le_pow_right (by omega) hm9
    simpa using this
  have htl : (tabL m a w).length = 2 ^ m := tabL_len m a w
  have hor : orV m a w = .tup [gl (i64s (nats (gO m a w m []))) (nats (gO m a w m [])).length .unk, I (tot m a w), I 0] := by
    unfold orV; rw [if_pos c1, Int.toNat_natCast]
  simp only [c1, F_attribution_Ordered, g_attribution_Ordered, go_sem, ↓tq_n, ↓tq_e, ↓tq_r, ↓bq_n, ↓bq_e, ↓bq_r, ↓rq_n, ↓rq_r, ↓rq_e]
  refine CallG.mk (r_attribution_costs m n1 a u1 he hm9 _ w hw1.wb _ (Rd.sl _ n2 w u2)) ?_
  simp only [F_attribution_Ordered, g_attribution_Ordered, go_sem, ↓tq_n, ↓tq_e, ↓tq_r, ↓bq_n, ↓bq_e, ↓bq_r, ↓rq_n, ↓rq_r, ↓rq_e]
  refine awp_tok 11 1 (nl := true) (n := 0) (cs := []) rfl fun t ht => ?_
  refine awp_loop (α := List Nat) (fun p => [(0, I m), (1, .sl n1 a.length (prs a) u1), (2, .sl n2 w.length (i64s w) u2), (10, .sl false (tabL m a w).length (i64s (tabL m a w)) .unk), (11, gl (i64s (nats p)) (nats p).length (.tok t)), (12, I (mk p))]) (fun p => h'.setTok t (nats p).length 1) (fun p => Pre m p ∧ gO m a w (m - p.length) p = gO m a w m []) (fun p => m - p.length) [] ⟨⟨by simp, by simp⟩, rfl⟩ (GStep.forget (by repeat' first | exact EnvLe.nil _ | refine EnvLe.cons (AV.le.of_eq rfl) ?_ | refine EnvLe.cons (AV.le.undef _) ?_ | refine EnvLe.cons AV.le.unk ?_) (by repeat' first | exact AH.le.refl _ | assumption | (refine AH.le_put ?_ (by first | assumption | exact (AH.blk_put_ne _ _ (by assumption)).trans (by assumption) | exact AH.none_put (by assumption) | exact AH.none_put (AH.none_put (by assumption)) | (simp only [AH.blk_setTok, AH.tok_put] at *; first | assumption | exact AH.none_put (by assumption)))) | (refine AH.le_setTok ?_ (by first | assumption | exact (AH.blk_put_ne _ _ (by assumption)).trans (by assumption) | exact AH.none_put (by assumption) | exact AH.none_put (AH.none_put (by assumption)) | (simp only [AH.blk_setTok, AH.tok_put] at *; first | assumption | exact AH.none_put (by assumption)))) | (refine AH.le_putM ?_ (by first | assumption | exact (AH.mp_putM_ne _ _ (by assumption)).trans (by assumption) | (simp only [AH.mp_put, AH.mp_setTok] at *; assumption))))) fun p hp => .of_vg hm ?_
  obtain ⟨h1, h2⟩ := hp
  have hpl := h1.len
  have hnl := nats_len p
  by_cases h3 : p.length < m
  case neg =>
    have h3 : p.length = m := by omega
    have hc : ¬ ((nats p).length : Int) < (m : Int) := by omega
    rw [show m - p.length = 0 by omega] at h2
    have h2 : p = gO m a w m [] := h2
    simp only [hc, i64s_drop (show 0 < (tabL m a w).length by omega), tot_tab, F_attribution_Ordered, g_attribution_Ordered, go_sem, ↓tq_n, ↓tq_e, ↓tq_r, ↓bq_n, ↓bq_e, ↓bq_r, ↓rq_n, ↓rq_r, ↓rq_e]
    refine ⟨by omega, ?_⟩
    refine ret_le (by repeat' first | exact AH.le.refl _ | assumption | (refine AH.le_put ?_ (by first | assumption | exact (AH.blk_put_ne _ _ (by assumption)).trans (by assumption) | exact AH.none_put (by assumption) | exact AH.none_put (AH.none_put (by assumption)) | (simp only [AH.blk_setTok, AH.tok_put] at *; first | assumption | exact AH.none_put (by assumption)))) | (refine AH.le_setTok ?_ (by first | assumption | exact (AH.blk_put_ne _ _ (by assumption)).trans (by assumption) | exact AH.none_put (by assumption) | exact AH.none_put (AH.none_put (by assumption)) | (simp only [AH.blk_setTok, AH.tok_put] at *; first | assumption | exact AH.none_put (by assumption)))) | (refine AH.le_putM ?_ (by first | assumption | exact (AH.mp_putM_ne _ _ (by assumption)).trans (by assumption) | (simp only [AH.mp_put, AH.mp_setTok] at *; assumption)))) ?_
    rw [hor, ← h2]
    exact tup3_le .glU
  have hc : ((nats p).length : Int) < (m : Int) := by omega
  obtain ⟨r, hr⟩ : ∃ r, m - p.length = r + 1 := ⟨m - p.length - 1, by omega⟩
  obtain ⟨v0, hv0, hv1, hv2⟩ := (gO_find (n := m) hw1.ok (r + 1) p h1 (by omega)).2 r rfl
  have hgo : gO m a w (r + 1) p = gO m a w r (p ++ [v0]) := by rw [gO, hv0]
  rw [hr, hgo] at h2
  have hsm : mk p < 2 ^ m := mk_lt p h1.2
  have hsl : mk p < (tabL m a w).length := by omega
  have hbefore : ∀ v, v < v0 → gC m a w r (mk p) v = false := fun v hv => by
    refine Bool.eq_false_iff.2 fun hh => ?_
    rw [List.find?_eq_some_iff_getElem] at hv0
    obtain ⟨_, i, hi, e1, e2⟩ := hv0
    rw [List.getElem_range] at e1
    subst e1
    have := e2 v hv
    rw [List.getElem_range, hh] at this
    cases this
  have hat : gC m a w r (mk p) v0 = true := List.find?_some hv0
  simp only [hc, F_attribution_Ordered, g_attribution_Ordered, go_sem, ↓tq_n, ↓tq_e, ↓tq_r, ↓bq_n, ↓bq_e, ↓bq_r, ↓rq_n, ↓rq_r, ↓rq_e]
  refine awp_loop (fun v : Nat => [(0, I m), (1, .sl n1 a.length (prs a) u1), (2, .sl n2 w.length (i64s w) u2), (10, .sl false (tabL m a w).length (i64s (tabL m a w)) .unk), (11, gl (i64s (nats p)) (nats p).length (.tok t)), (12, I (mk p)), (29, I m), (30, I v)]) (fun _ => h'.setTok t (nats p).length 1) (fun v => v ≤ v0) (fun v => m - v) 0 (Nat.zero_le _) (GStep.forget (by repeat' first | exact EnvLe.nil _ | refine EnvLe.cons (AV.le.of_eq rfl) ?_ | refine EnvLe.cons (AV.le.undef _) ?_ | refine EnvLe.cons AV.le.unk ?_) (by repeat' first | exact AH.le.refl _ | assumption | (refine AH.le_put ?_ (by first | assumption | exact (AH.blk_put_ne _ _ (by assumption)).trans (by assumption) | exact AH.none_put (by assumption) | exact AH.none_put (AH.none_put (by assumption)) | (simp only [AH.blk_setTok, AH.tok_put] at *; first | assumption | exact AH.none_put (by assumption)))) | (refine AH.le_setTok ?_ (by first | assumption | exact (AH.blk_put_ne _ _ (by assumption)).trans (by assumption) | exact AH.none_put (by assumption) | exact AH.none_put (AH.none_put (by assumption)) | (simp only [AH.blk_setTok, AH.tok_put] at *; first | assumption | exact AH.none_put (by assumption)))) | (refine AH.le_putM ?_ (by first | assumption | exact (AH.mp_putM_ne _ _ (by assumption)).trans (by assumption) | (simp only [AH.mp_put, AH.mp_setTok] at *; assumption))))) fun v hv => .of_vg hm ?_
  have hvm : v < m := by omega
  have hcv : (v : Int) < (m : Int) := by omega
  have hvv0 : (0 : Int) ≤ (v : Int) := by omega
  have e0 := bit_at (m := mk p) (i := v) (by omega) (by omega)
  rw [mk_bit] at e0
  by_cases hin : v ∈ p
  · rw [decide_eq_true hin] at e0
    have hne : v ≠ v0 := fun hh => hv2 (hh ▸ hin)
    simp only [hcv, hvv0, e0, F_attribution_Ordered, g_attribution_Ordered, go_sem, ↓tq_n, ↓tq_e, ↓tq_r, ↓bq_n, ↓bq_e, ↓bq_r, ↓rq_n, ↓rq_r, ↓rq_e]
    exact ⟨by rw [inR64]; omega, v + 1, by omega, by omega, (GStep.forget (by repeat' first | exact EnvLe.nil _ | refine EnvLe.cons (AV.le.of_eq rfl) ?_ | refine EnvLe.cons (AV.le.undef _) ?_ | refine EnvLe.cons AV.le.unk ?_) (by repeat' first | exact AH.le.refl _ | assumption | (refine AH.le_put ?_ (by first | assumption | exact (AH.blk_put_ne _ _ (by assumption)).trans (by assumption) | exact AH.none_put (by assumption) | exact AH.none_put (AH.none_put (by assumption)) | (simp only [AH.blk_setTok, AH.tok_put] at *; first | assumption | exact AH.none_put (by assumption)))) | (refine AH.le_setTok ?_ (by first | assumption | exact (AH.blk_put_ne _ _ (by assumption)).trans (by assumption) | exact AH.none_put (by assumption) | exact AH.none_put (AH.none_put (by assumption)) | (simp only [AH.blk_setTok, AH.tok_put] at *; first | assumption | exact AH.none_put (by assumption)))) | (refine AH.le_putM ?_ (by first | assumption | exact (AH.mp_putM_ne _ _ (by assumption)).trans (by assumption) | (simp only [AH.mp_put, AH.mp_setTok] at *; assumption)))))⟩
  rw [decide_eq_false hin] at e0
  have e2 := shl_one (i := v) (by omega)
  have hp2 : 2 ^ v < 9223372036854775808 := by
    have : 2 ^ v ≤ 2 ^ 9 := Nat.pow_le_pow_right (by omega) (by omega)
    omega
  have e3 := Abs.bit_or (x := mk p) (y := 2 ^ v) (by omega) hp2
  have hps := h1.snoc hvm hin
  have hql : (mk p ||| 2 ^ v) < 2 ^ m := by rw [← mk_snoc]; exact mk_lt _ hps.2
  have hq0 : (0 : Int) ≤ ((mk p ||| 2 ^ v : Nat) : Int) := by omega
  have hqM : ((mk p ||| 2 ^ v : Nat) : Int) < ((tabL m a w).length : Int) := by omega
  have hs0 : (0 : Int) ≤ (mk p : Int) := by omega
  have hsM : (mk p : Int) < ((tabL m a w).length : Int) := by omega
  have g1 : (tabL m a w).getD (mk p) 0 = T m a w (r + 1) (mk p) := by rw [tabL_mk h1, hr]
  have g2 : (tabL m a w).getD (mk p ||| 2 ^ v) 0 = T m a w r (mk p ||| 2 ^ v) := by
    rw [← mk_snoc, tabL_mk hps, List.length_append, List.length_singleton, show m - (p.length + 1) = r by omega]
  have hgc : gC m a w r (mk p) v = decide (bw a w v (mk p) + T m a w r (mk p ||| 2 ^ v) = T m a w (r + 1) (mk p)) := by
    unfold gC
    rw [mk_bit, decide_eq_false hin]
    rfl
  have hbw := sum_bd hw1.wb (bwP a v (mk p)) (k := a.length) (Nat.le_refl _)
  have hbw2 : bw a w v (mk p) = sumK w (bwP a v (mk p)) a.length := rfl
  have hTb := T_bd (n := m) hw1.wb r (mk p ||| 2 ^ v)
  have hrm : (r : Int) ≤ 9 := by omega
  simp only [hcv, hvv0, e0, F_attribution_Ordered, g_attribution_Ordered, go_sem, ↓tq_n, ↓tq_e, ↓tq_r, ↓bq_n, ↓bq_e, ↓bq_r, ↓rq_n, ↓rq_r, ↓rq_e]
  refine CallG.mk (r_attribution_backward m n1 a u1 he _ w v (mk p) hvm (by omega) hw1.wb _ (Rd.sl _ n2 w u2)) ?_
  have hrr : (r : Int) * 24000000 ≤ 9 * 24000000 := Int.mul_le_mul_of_nonneg_right hrm (by omega)
  by_cases hce : bw a w v (mk p) + T m a w r (mk p ||| 2 ^ v) = T m a w (r + 1) (mk p)
  · have hvv : v = v0 := by
      rcases Nat.lt_or_ge v v0 with h5 | h5
      · have := hbefore v h5
        rw [hgc, decide_eq_true hce] at this
        cases this
      · omega
    subst hvv
    simp only [hvv0, e2, e3, hq0, hqM, i64s_drop (show (mk p ||| 2 ^ v) < (tabL m a w).length by omega), g2, hs0, hsM, i64s_drop hsl, g1, decide_eq_true hce, F_attribution_Ordered, g_attribution_Ordered, go_sem, ↓tq_n, ↓tq_e, ↓tq_r, ↓bq_n, ↓bq_e, ↓bq_r, ↓rq_n, ↓rq_r, ↓rq_e]
    refine ⟨by rw [inR64]; omega, by rw [i64s_len], by omega, by omega, p ++ [v], ⟨hps, ?_⟩, ?_, ?_⟩
    · rw [List.length_append, List.length_singleton, show m - (p.length + 1) = r by omega]
      exact h2
    · rw [List.length_append, List.length_singleton]; omega
    · rw [nats_append, i64s_append, List.length_append, mk_snoc]
      exact (GStep.forget (by repeat' first | exact EnvLe.nil _ | refine EnvLe.cons (AV.le.of_eq rfl) ?_ | refine EnvLe.cons (AV.le.undef _) ?_ | refine EnvLe.cons AV.le.unk ?_) (by repeat' first | exact AH.le.refl _ | assumption | (refine AH.le_put ?_ (by first | assumption | exact (AH.blk_put_ne _ _ (by assumption)).trans (by assumption) | exact AH.none_put (by assumption) | exact AH.none_put (AH.none_put (by assumption)) | (simp only [AH.blk_setTok, AH.tok_put] at *; first | assumption | exact AH.none_put (by assumption)))) | (refine AH.le_setTok ?_ (by first | assumption | exact (AH.blk_put_ne _ _ (by assumption)).trans (by assumption) | exact AH.none_put (by assumption) | exact AH.none_put (AH.none_put (by assumption)) | (simp only [AH.blk_setTok, AH.tok_put] at *; first | assumption | exact AH.none_put (by assumption)))) | (refine AH.le_putM ?_ (by first | assumption | exact (AH.mp_putM_ne _ _ (by assumption)).trans (by assumption) | (simp only [AH.mp_put, AH.mp_setTok] at *; assumption)))))
  · have hne : v ≠ v0 := fun hh => by
      subst hh
      rw [hgc, decide_eq_false hce] at hat
      cases hat
    simp only [hvv0, e2, e3, hq0, hqM, i64s_drop (show (mk p ||| 2 ^ v) < (tabL m a w).length by omega), g2, hs0, hsM, i64s_drop hsl, g1, hce, F_attribution_Ordered, g_attribution_Ordered, go_sem, ↓tq_n, ↓tq_e, ↓tq_r, ↓bq_n, ↓bq_e, ↓bq_r, ↓rq_n, ↓rq_r, ↓rq_e]
    exact ⟨by rw [inR64]; omega, by rw [inR64]; omega, v + 1, by omega, by omega, (GStep.forget (by repeat' first | exact EnvLe.nil _ | refine EnvLe.cons (AV.le.of_eq rfl) ?_ | refine EnvLe.cons (AV.le.undef _) ?_ | refine EnvLe.cons AV.le.unk ?_) (by repeat' first | exact AH.le.refl _ | assumption | (refine AH.le_put ?_ (by first | assumption | exact (AH.blk_put_ne _ _ (by assumption)).trans (by assumption) | exact AH.none_put (by assumption) | exact AH.none_put (AH.none_put (by assumption)) | (simp only [AH.blk_setTok, AH.tok_put] at *; first | assumption | exact AH.none_put (by assumption)))) | (refine AH.le_setTok ?_ (by first | assumption | exact (AH.blk_put_ne _ _ (by assumption)).trans (by assumption) | exact AH.none_put (by assumption) | exact AH.none_put (AH.none_put (by assumption)) | (simp only [AH.blk_setTok, AH.tok_put] at *; first | assumption | exact AH.none_put (by assumption)))) | (refine AH.le_putM ?_ (by first | assumption | exact (AH.mp_putM_ne _ _ (by assumption)).trans (by assumption) | (simp only [AH.mp_put, AH.mp_setTok] at *; assumption)))))⟩
end Go.Proofs.YtidmekdkfiljjaaGreat
